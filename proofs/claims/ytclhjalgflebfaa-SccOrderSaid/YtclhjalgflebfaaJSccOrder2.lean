/- What the row of SccOrder rests on, part 2: contracts of the functions that it reaches, and the plain law. -/
import Derived.Test.YtclhjalgflebfaaJSccOrder1
namespace Go.Proofs.Ytclhjalgflebfaa.Q
open Go.RowKit Go.Proofs.YtclhjalgflebfaaW.PrintWords Go.Proofs.YtclhjalgflebfaaW.PrintLast Go.Proofs.YtclhjalgflebfaaW.PrintMore
attribute [local go_sem] max2_int min2_int max_two min_two max_three min_three max_four min_four   -- for this text's walks alone
set_option linter.unusedVariables false
set_option linter.unusedSimpArgs false
/-! ### truantlaw20_great: function 28 -/
mutual
def truantlaw20_great.l0 : Nat → Int → List (S150) → List (S152) → List (S26) → Option (Bool)
 | 0, _, _, _, _ => none
 | k + 1, x3, x294000, x294001, x294002 => if x3 < (x294002.length : Int) then (if 0 ≤ x3 then (if (((rd_T26 x294002 x3).f4).length : Int) > 300 then (truantlaw20_great.j1 k x3 true x294000 x294001 x294002 ((rd_T26 x294002 x3).f0) ((rd_T26 x294002 x3).f1) ((rd_T26 x294002 x3).f2) ((rd_T26 x294002 x3).f3) ((rd_T26 x294002 x3).f4) ((rd_T26 x294002 x3).f5)) else (truantlaw20_great.j1 k x3 (decide ((((rd_T26 x294002 x3).f5).length : Int) > 30)) x294000 x294001 x294002 ((rd_T26 x294002 x3).f0) ((rd_T26 x294002 x3).f1) ((rd_T26 x294002 x3).f2) ((rd_T26 x294002 x3).f3) ((rd_T26 x294002 x3).f4) ((rd_T26 x294002 x3).f5))) else (none)) else (some false)
def truantlaw20_great.j1 : Nat → Int → Bool → List (S150) → List (S152) → List (S26) → ByteArray → List ByteArray → ByteArray → List ByteArray → List (S58) → List (S40) → Option (Bool)
 | 0, _, _, _, _, _, _, _, _, _, _, _ => none
 | k + 1, x3, x31, x294000, x294001, x294002, x296000, x296001, x296002, x296003, x296004, x296005 => if x31 = true then (some true) else (truantlaw20_great.l1 k x3 0 x294000 x294001 x294002 x296000 x296001 x296002 x296003 x296004 x296005)
def truantlaw20_great.l1 : Nat → Int → Int → List (S150) → List (S152) → List (S26) → ByteArray → List ByteArray → ByteArray → List ByteArray → List (S58) → List (S40) → Option (Bool)
 | 0, _, _, _, _, _, _, _, _, _, _, _ => none
 | k + 1, x3, x5, x294000, x294001, x294002, x296000, x296001, x296002, x296003, x296004, x296005 => if x5 < (x296005.length : Int) then (if 0 ≤ x5 then (if (((rd_T40 x296005 x5).f0).length : Int) > 100 then (some true) else (truantlaw20_great.l1 k x3 (wrap64 (x5 + 1)) x294000 x294001 x294002 x296000 x296001 x296002 x296003 x296004 x296005)) else (none)) else (truantlaw20_great.l0 k (wrap64 (x3 + 1)) x294000 x294001 x294002)
end
def truantlaw20_great.f (k : Nat) (l0_0 : List (S150)) (l0_1 : List (S152)) (l0_2 : List (S26)) : Option (Bool) := if (l0_2.length : Int) > 20 then (some true) else (truantlaw20_great.l0 k 0 l0_0 l0_1 l0_2)
theorem truantlaw20_great.mono_l : ∀ k, (∀ y0 y1 y2 y3, LeO (truantlaw20_great.l0 k y0 y1 y2 y3) (truantlaw20_great.l0 (k + 1) y0 y1 y2 y3)) ∧ (∀ y0 y1 y2 y3 y4 y5 y6 y7 y8 y9 y10, LeO (truantlaw20_great.j1 k y0 y1 y2 y3 y4 y5 y6 y7 y8 y9 y10) (truantlaw20_great.j1 (k + 1) y0 y1 y2 y3 y4 y5 y6 y7 y8 y9 y10)) ∧ (∀ y0 y1 y2 y3 y4 y5 y6 y7 y8 y9 y10, LeO (truantlaw20_great.l1 k y0 y1 y2 y3 y4 y5 y6 y7 y8 y9 y10) (truantlaw20_great.l1 (k + 1) y0 y1 y2 y3 y4 y5 y6 y7 y8 y9 y10))
 | 0 => ⟨fun _ _ _ _ r h => by simp [truantlaw20_great.l0] at h, fun _ _ _ _ _ _ _ _ _ _ _ r h => by simp [truantlaw20_great.j1] at h, fun _ _ _ _ _ _ _ _ _ _ _ r h => by simp [truantlaw20_great.l1] at h⟩
 | k + 1 => by
  obtain ⟨ih0, ih1, ih2⟩ := truantlaw20_great.mono_l k
  refine ⟨?_, ?_, ?_⟩
  ·intro y0 y1 y2 y3
   unfold truantlaw20_great.l0
   repeat' first
   | (with_reducible exact ih0 _ _ _ _)
   | (with_reducible exact ih1 _ _ _ _ _ _ _ _ _ _ _)
   | (with_reducible exact ih2 _ _ _ _ _ _ _ _ _ _ _)
   | (with_reducible exact LeO.refl _)
   | (with_reducible exact LeO.none _)
   | (with_reducible refine LeO.ite ?_ ?_)
   | (with_reducible refine LeO.bind ?_ (fun _ => ?_))
   | exact ih0 _ _ _ _
   | exact ih1 _ _ _ _ _ _ _ _ _ _ _
   | exact ih2 _ _ _ _ _ _ _ _ _ _ _
   | exact LeO.none _
   | refine LeO.ite ?_ ?_
   | refine LeO.bind ?_ (fun _ => ?_)
  ·intro y0 y1 y2 y3 y4 y5 y6 y7 y8 y9 y10
   unfold truantlaw20_great.j1
   repeat' first
   | (with_reducible exact ih0 _ _ _ _)
   | (with_reducible exact ih1 _ _ _ _ _ _ _ _ _ _ _)
   | (with_reducible exact ih2 _ _ _ _ _ _ _ _ _ _ _)
   | (with_reducible exact LeO.refl _)
   | (with_reducible exact LeO.none _)
   | (with_reducible refine LeO.ite ?_ ?_)
   | (with_reducible refine LeO.bind ?_ (fun _ => ?_))
   | exact ih0 _ _ _ _
   | exact ih1 _ _ _ _ _ _ _ _ _ _ _
   | exact ih2 _ _ _ _ _ _ _ _ _ _ _
   | exact LeO.none _
   | refine LeO.ite ?_ ?_
   | refine LeO.bind ?_ (fun _ => ?_)
  ·intro y0 y1 y2 y3 y4 y5 y6 y7 y8 y9 y10
   unfold truantlaw20_great.l1
   repeat' first
   | (with_reducible exact ih0 _ _ _ _)
   | (with_reducible exact ih1 _ _ _ _ _ _ _ _ _ _ _)
   | (with_reducible exact ih2 _ _ _ _ _ _ _ _ _ _ _)
   | (with_reducible exact LeO.refl _)
   | (with_reducible exact LeO.none _)
   | (with_reducible refine LeO.ite ?_ ?_)
   | (with_reducible refine LeO.bind ?_ (fun _ => ?_))
   | exact ih0 _ _ _ _
   | exact ih1 _ _ _ _ _ _ _ _ _ _ _
   | exact ih2 _ _ _ _ _ _ _ _ _ _ _
   | exact LeO.none _
   | refine LeO.ite ?_ ?_
   | refine LeO.bind ?_ (fun _ => ?_)
theorem truantlaw20_great.mono : ∀ a0 a1 a2 k, LeO (truantlaw20_great.f k a0 a1 a2) (truantlaw20_great.f (k + 1) a0 a1 a2) := by
 intro a0 a1 a2 k
 obtain ⟨ih0, ih1, ih2⟩ := truantlaw20_great.mono_l k
 unfold truantlaw20_great.f
 repeat' first
   | (with_reducible exact ih0 _ _ _ _)
   | (with_reducible exact ih1 _ _ _ _ _ _ _ _ _ _ _)
   | (with_reducible exact ih2 _ _ _ _ _ _ _ _ _ _ _)
   | (with_reducible exact LeO.refl _)
   | (with_reducible exact LeO.none _)
   | (with_reducible refine LeO.ite ?_ ?_)
   | (with_reducible refine LeO.bind ?_ (fun _ => ?_))
   | exact ih0 _ _ _ _
   | exact ih1 _ _ _ _ _ _ _ _ _ _ _
   | exact ih2 _ _ _ _ _ _ _ _ _ _ _
   | exact LeO.none _
   | refine LeO.ite ?_ ?_
   | refine LeO.bind ?_ (fun _ => ?_)
set_option maxHeartbeats 8000000 in
set_option maxRecDepth 100000 in
theorem truantlaw20_great.calls (k : Nat) (A0_0 : Option Addr) (c0_0 : Nat) (l0_0 : List (S150)) (A0_1 : Option Addr) (c0_1 : Nat) (l0_1 : List (S152)) (A0_2 : Option Addr) (c0_2 : Nat) (l0_2 : List (S26)) (r : Bool) (w : World) (hr0_0 : Kd.C k150 w A0_0 l0_0.length l0_0) (hc0_0 : l0_0.length ≤ c0_0) (hr0_1 : Kd.C k152 w A0_1 l0_1.length l0_1) (hc0_1 : l0_1.length ≤ c0_1) (hr0_2 : Kd.C k26 w A0_2 l0_2.length l0_2) (hc0_2 : l0_2.length ≤ c0_2) (h : truantlaw20_great.f k l0_0 l0_1 l0_2 = some r) :
  Calls Try.prog 28 #[.agg #[.slice A0_0 l0_0.length c0_0, .slice A0_1 l0_1.length c0_1, .slice A0_2 l0_2.length c0_2]] w fun e w' => e = .returned (.bool r) ∧ Below w.heap.size w w' := by
 have hu48 := Try.underlying48
 have hu26 := Try.underlying26
 have HR0_0 := Aside0.mk hr0_0
 have HC0_0 := Aside0.mk hc0_0
 clear hr0_0 hc0_0
 have HR0_1 := Aside0.mk hr0_1
 have HC0_1 := Aside0.mk hc0_1
 clear hr0_1 hc0_1
 have HR0_2 := Aside0.mk hr0_2
 have HC0_2 := Aside0.mk hc0_2
 clear hr0_2 hc0_2
 have HB := Aside0.mk (Below.refl w.heap.size w)
 have H : (if (l0_2.length : Int) > 20 then (some true) else (truantlaw20_great.l0 k 0 l0_0 l0_1 l0_2)) = some r := h
 clear h
 by_cases c2 : (l0_2.length : Int) > 20
 ·rw [if_pos c2] at H
  have c2b0 : decide (20 < (l0_2.length : Int)) = true := decide_eq_true c2
  have c2b1 : decide (20 < l0_2.length) = true := decide_eq_true (by omega)
  clear c2
  obtain rfl := Option.some.inj H
  go_enter Try.func28, Try.ntmps28
  go_wp2_with (first | ((with_reducible refine gate_dst (N := 1) rfl ?_); (try (refine gate_guard (by rfl) ?_; dsimp only)); refine box_event ?hg (N := 1) ?hd (cs := #[.slice A0_0 l0_0.length c0_0, .slice A0_1 l0_1.length c0_1, .slice A0_2 l0_2.length c0_2]) (t := 48) ?hr ?_; (case hd => rfl); (case hg => rfl); (case hr => first | (go_simp; done) | (go_simp; rfl)); intro gb293 hg w3 hbox hb; have n0_ := Aside0.mk (below_step (by repeat (first | (with_reducible first | exact HB.out | apply below_alloc | apply pw_below_drewN | apply below_drew1) | exact HB.out)) hb); have n1_ := Aside0.mk (hbox); have n2_ := Aside0.mk ((by rw [hg]; exact (below_size (by repeat (first | (with_reducible first | exact HB.out | apply below_alloc | apply pw_below_drewN | apply below_drew1) | exact HB.out))) : w.heap.size ≤ gb293)); have n3_ := Aside0.mk ((by rw [hg]; exact (below_size (by repeat (first | (with_reducible first | exact HB.out | apply below_alloc | apply pw_below_drewN | apply below_drew1) | exact HB.out))) : w.heap.size ≤ gb293)); clear HB; have HB := n0_; have BK293 := n1_; have GW293 := n2_; have GE293 := n3_; clear n0_ n1_ n2_ n3_; clear hb hbox hg; have hcz4_0 : w3.cell? ⟨gb293, 0, none⟩ = some (.slice A0_0 l0_0.length c0_0) := (blk_cell BK293.out 0).trans rfl; have hcz4_1 : w3.cell? ⟨gb293, 1, none⟩ = some (.slice A0_1 l0_1.length c0_1) := (blk_cell BK293.out 1).trans rfl; have hcz4_2 : w3.cell? ⟨gb293, 2, none⟩ = some (.slice A0_2 l0_2.length c0_2) := (blk_cell BK293.out 2).trans rfl; have hfz4_0 := blk_frozen BK293.out 0; have hfz4_1 := blk_frozen BK293.out 1; have hfz4_2 := blk_frozen BK293.out 2))
  go_ret
  exact ⟨by first | rfl | (simp [errW_none, errW_some] <;> rfl) | (simp [*, errW_none, errW_some] <;> rfl), by repeat (first | (with_reducible first | exact HB.out | apply below_alloc | apply pw_below_drewN | apply below_drew1 | refine below_set ?_ GE293.out) | exact HB.out)⟩
 ·rw [if_neg c2] at H
  have c2b0 : decide (20 < (l0_2.length : Int)) = false := decide_eq_false c2
  have c2b1 : decide (20 < l0_2.length) = false := decide_eq_false (by omega)
  clear c2
  have H' := Aside0.mk H
  clear H
  go_enter Try.func28, Try.ntmps28
  go_wp2_with (first | ((with_reducible refine gate_dst (N := 1) rfl ?_); (try (refine gate_guard (by rfl) ?_; dsimp only)); refine box_event ?hg (N := 1) ?hd (cs := #[.slice A0_0 l0_0.length c0_0, .slice A0_1 l0_1.length c0_1, .slice A0_2 l0_2.length c0_2]) (t := 48) ?hr ?_; (case hd => rfl); (case hg => rfl); (case hr => first | (go_simp; done) | (go_simp; rfl)); intro gb293 hg w5 hbox hb; have n0_ := Aside0.mk (below_step (by repeat (first | (with_reducible first | exact HB.out | apply below_alloc | apply pw_below_drewN | apply below_drew1) | exact HB.out)) hb); have n1_ := Aside0.mk (hbox); have n2_ := Aside0.mk ((by rw [hg]; exact (below_size (by repeat (first | (with_reducible first | exact HB.out | apply below_alloc | apply pw_below_drewN | apply below_drew1) | exact HB.out))) : w.heap.size ≤ gb293)); have n3_ := Aside0.mk ((by rw [hg]; exact (below_size (by repeat (first | (with_reducible first | exact HB.out | apply below_alloc | apply pw_below_drewN | apply below_drew1) | exact HB.out))) : w.heap.size ≤ gb293)); clear HB; have HB := n0_; have BK293 := n1_; have GW293 := n2_; have GE293 := n3_; clear n0_ n1_ n2_ n3_; clear hb hbox hg; have hcz6_0 : w5.cell? ⟨gb293, 0, none⟩ = some (.slice A0_0 l0_0.length c0_0) := (blk_cell BK293.out 0).trans rfl; have hcz6_1 : w5.cell? ⟨gb293, 1, none⟩ = some (.slice A0_1 l0_1.length c0_1) := (blk_cell BK293.out 1).trans rfl; have hcz6_2 : w5.cell? ⟨gb293, 2, none⟩ = some (.slice A0_2 l0_2.length c0_2) := (blk_cell BK293.out 2).trans rfl; have hfz6_0 := blk_frozen BK293.out 0; have hfz6_1 := blk_frozen BK293.out 1; have hfz6_2 := blk_frozen BK293.out 2))
  go_loopg [3] k (fun kq v3 w' => ∃ (x3_1 : Int), v3 = .int .i64 x3_1 ∧ Aside0 (truantlaw20_great.l0 kq x3_1 l0_0 l0_1 l0_2 = some r) ∧ Aside0 (kq ≤ k) ∧ Aside0 (w'.heap[gb293]? = some (.cells #[(.slice A0_0 l0_0.length c0_0), (.slice A0_1 l0_1.length c0_1), (.slice A0_2 l0_2.length c0_2)] 48 (0, 0))) ∧ Aside0 (Below w.heap.size w w'))
  case atStart => exact ⟨(0), (by first | rfl | (simp; done) | (simp [*]; done)), H', ⟨Nat.le_refl _⟩, ⟨by (with_reducible repeat (first | refine blk_drewN ?_ _ | refine blk_drew ?_ | refine blk_alloc ?_ _)); exact BK293.out⟩, ⟨by repeat (first | (with_reducible first | exact HB.out | apply below_alloc | apply pw_below_drewN | apply below_drew1 | refine below_set ?_ GE293.out) | exact HB.out)⟩⟩
  case round =>
   clear H'
   try clear c2
   try clear c2b0
   try clear c2b1
   try clear p2
   try clear hcz4_0
   try clear hcz4_1
   try clear hcz4_2
   try clear hcz6_0
   try clear hcz6_1
   try clear hcz6_2
   try clear hfz4_0
   try clear hfz4_1
   try clear hfz4_2
   try clear hfz6_0
   try clear hfz6_1
   try clear hfz6_2
   obtain ⟨x3_1, rfl, HA, HK1, BK293, HB⟩ := hrel
   cases gk with
   | zero => exact absurd HA.out (by simp [truantlaw20_great.l0])
   | succ k1 =>
    have H := HA.out
    clear HA
    simp only [truantlaw20_great.l0] at H
    by_cases c7 : x3_1 < (l0_2.length : Int)
    ·rw [if_pos c7] at H
     have c7b0 : decide (x3_1 < (l0_2.length : Int)) = true := decide_eq_true c7
     clear c7
     by_cases c8 : 0 ≤ x3_1
     ·rw [if_pos c8] at H
      have c8b0 : decide (0 ≤ x3_1) = true := decide_eq_true c8
      clear c8
      have HC9 := Aside0.mk H
      clear H
      have hcz10_0 : wr.cell? ⟨gb293, 0, none⟩ = some (.slice A0_0 l0_0.length c0_0) := (blk_cell BK293.out 0).trans rfl
      have hcz10_1 : wr.cell? ⟨gb293, 1, none⟩ = some (.slice A0_1 l0_1.length c0_1) := (blk_cell BK293.out 1).trans rfl
      have hcz10_2 : wr.cell? ⟨gb293, 2, none⟩ = some (.slice A0_2 l0_2.length c0_2) := (blk_cell BK293.out 2).trans rfl
      have hfz10_0 := blk_frozen BK293.out 0
      have hfz10_1 := blk_frozen BK293.out 1
      have hfz10_2 := blk_frozen BK293.out 2
      have p294 : 0 ≤ (x3_1 : Int) := of_decide_eq_true (by first | (with_reducible assumption) | assumption)
      have q294 : x3_1 < (l0_2.length : Int) := of_decide_eq_true (by first | (with_reducible assumption) | assumption)
      obtain ⟨ad294, A294_1, c294_1, A294_3, c294_3, A294_4, c294_4, A294_5, c294_5, e294, hx294_0, hx294_1, hx294_2, hx294_3, hx294_4, hx294_5, hl294_1, hi294_1, hl294_3, hi294_3, hl294_4, hi294_4, hl294_5, hi294_5⟩ := at_T26 HR0_2.out x3_1 p294 q294
      cases e294
      replace hx294_0 := (HB.out.cell (World.block_lt_of_cell? w _ hx294_0)).trans hx294_0
      replace hx294_1 := (HB.out.cell (World.block_lt_of_cell? w _ hx294_1)).trans hx294_1
      replace hx294_2 := (HB.out.cell (World.block_lt_of_cell? w _ hx294_2)).trans hx294_2
      replace hx294_3 := (HB.out.cell (World.block_lt_of_cell? w _ hx294_3)).trans hx294_3
      replace hx294_4 := (HB.out.cell (World.block_lt_of_cell? w _ hx294_4)).trans hx294_4
      replace hx294_5 := (HB.out.cell (World.block_lt_of_cell? w _ hx294_5)).trans hx294_5
      have HR294_1 := Aside0.mk hi294_1
      have HC294_1 := Aside0.mk hl294_1
      clear hi294_1 hl294_1
      have HR294_3 := Aside0.mk hi294_3
      have HC294_3 := Aside0.mk hl294_3
      clear hi294_3 hl294_3
      have HR294_4 := Aside0.mk hi294_4
      have HC294_4 := Aside0.mk hl294_4
      clear hi294_4 hl294_4
      have HR294_5 := Aside0.mk hi294_5
      have HC294_5 := Aside0.mk hl294_5
      clear hi294_5 hl294_5
      replace p294 := eq_true p294
      replace q294 := eq_true q294
      go_upto_region 7 with (first | ((with_reducible refine gate_dst (N := 4) rfl ?_); (try (refine gate_guard (by rfl) ?_; dsimp only)); refine box_event ?hg (N := 4) ?hd (cs := #[.string (⟨#[]⟩ : ByteArray), .slice none 0 0, .string (⟨#[]⟩ : ByteArray), .slice none 0 0, .slice none 0 0, .slice none 0 0]) (t := 26) ?hr ?_; (case hd => rfl); (case hg => rfl); (case hr => first | (go_simp; done) | (go_simp; rfl)); intro gb295 hg w11 hbox hb; have n0_ := Aside0.mk (blk_below (g := gb293) (o := .cells #[.slice A0_0 l0_0.length c0_0, .slice A0_1 l0_1.length c0_1, .slice (some ad294) l0_2.length c0_2] 48 (0, 0)) (by (with_reducible repeat (first | refine blk_drewN ?_ _ | refine blk_drew ?_ | refine blk_alloc ?_ _)); exact BK293.out) hb); have n1_ := Aside0.mk (below_step (by repeat (first | (with_reducible first | exact HB.out | apply below_alloc | apply pw_below_drewN | apply below_drew1 | refine below_set ?_ GE293.out) | exact HB.out)) hb); have n2_ := Aside0.mk (hbox); have n3_ := Aside0.mk ((by rw [hg]; exact (below_size (by repeat (first | (with_reducible first | exact HB.out | apply below_alloc | apply pw_below_drewN | apply below_drew1 | refine below_set ?_ GE293.out) | exact HB.out))) : w.heap.size ≤ gb295)); have n4_ := Aside0.mk ((by rw [hg]; exact (below_size (by repeat (first | (with_reducible first | exact HB.out | apply below_alloc | apply pw_below_drewN | apply below_drew1 | refine below_set ?_ GE293.out) | exact HB.out))) : w.heap.size ≤ gb295)); have n5_ := Aside0.mk ((by rw [hg]; exact Nat.ne_of_lt (blk_lt (g := gb293) (o := .cells #[.slice A0_0 l0_0.length c0_0, .slice A0_1 l0_1.length c0_1, .slice (some ad294) l0_2.length c0_2] 48 (0, 0)) (by (with_reducible repeat (first | refine blk_drewN ?_ _ | refine blk_drew ?_ | refine blk_alloc ?_ _)); exact BK293.out)) : gb293 ≠ gb295)); have n6_ := Aside0.mk ((by rw [hg]; exact Nat.ne_of_gt (blk_lt (g := gb293) (o := .cells #[.slice A0_0 l0_0.length c0_0, .slice A0_1 l0_1.length c0_1, .slice (some ad294) l0_2.length c0_2] 48 (0, 0)) (by (with_reducible repeat (first | refine blk_drewN ?_ _ | refine blk_drew ?_ | refine blk_alloc ?_ _)); exact BK293.out)) : gb295 ≠ gb293)); clear BK293; clear HB; have BK293 := n0_; have HB := n1_; have BK295 := n2_; have GW295 := n3_; have GE295 := n4_; have NB293_295 := n5_; have NB295_293 := n6_; clear n0_ n1_ n2_ n3_ n4_ n5_ n6_; clear hb hbox hg; have hnb12 := NB295_293.out; have hnc12 := NB293_295.out; have hcz13_0 : w11.cell? ⟨gb295, 0, none⟩ = some (.string (⟨#[]⟩ : ByteArray)) := (blk_cell BK295.out 0).trans rfl; have hcz13_1 : w11.cell? ⟨gb295, 1, none⟩ = some (.slice none 0 0) := (blk_cell BK295.out 1).trans rfl; have hcz13_2 : w11.cell? ⟨gb295, 2, none⟩ = some (.string (⟨#[]⟩ : ByteArray)) := (blk_cell BK295.out 2).trans rfl; have hcz13_3 : w11.cell? ⟨gb295, 3, none⟩ = some (.slice none 0 0) := (blk_cell BK295.out 3).trans rfl; have hcz13_4 : w11.cell? ⟨gb295, 4, none⟩ = some (.slice none 0 0) := (blk_cell BK295.out 4).trans rfl; have hcz13_5 : w11.cell? ⟨gb295, 5, none⟩ = some (.slice none 0 0) := (blk_cell BK295.out 5).trans rfl; have hfz13_0 := blk_frozen BK295.out 0; have hfz13_1 := blk_frozen BK295.out 1; have hfz13_2 := blk_frozen BK295.out 2; have hfz13_3 := blk_frozen BK295.out 3; have hfz13_4 := blk_frozen BK295.out 4; have hfz13_5 := blk_frozen BK295.out 5))
      (try simp only [Act.put, List.setIfInBounds_toArray, List.set_cons_zero, List.set_cons_succ])
      go_cut [31] (fun v31 wc => ∃ (kq : Nat) (x31_8 : Bool), v31 = .bool x31_8 ∧ Aside0 (truantlaw20_great.j1 kq x3_1 x31_8 l0_0 l0_1 l0_2 ((rd_T26 l0_2 x3_1).f0) ((rd_T26 l0_2 x3_1).f1) ((rd_T26 l0_2 x3_1).f2) ((rd_T26 l0_2 x3_1).f3) ((rd_T26 l0_2 x3_1).f4) ((rd_T26 l0_2 x3_1).f5) = some r) ∧ Aside0 (kq ≤ k1) ∧ Aside0 (wc.heap[gb293]? = some (.cells #[(.slice A0_0 l0_0.length c0_0), (.slice A0_1 l0_1.length c0_1), (.slice (some ad294) l0_2.length c0_2)] 48 (0, 0))) ∧ Aside0 (wc.heap[gb295]? = some (.cells #[.string ((rd_T26 l0_2 x3_1).f0), (.slice A294_1 ((rd_T26 l0_2 x3_1).f1).length c294_1), .string ((rd_T26 l0_2 x3_1).f2), (.slice A294_3 ((rd_T26 l0_2 x3_1).f3).length c294_3), (.slice A294_4 ((rd_T26 l0_2 x3_1).f4).length c294_4), (.slice A294_5 ((rd_T26 l0_2 x3_1).f5).length c294_5)] 26 (0, 0))) ∧ Aside0 (Below w.heap.size w wc))
      case first =>
       have H := HC9.out
       clear HC9
       by_cases c14 : (((rd_T26 l0_2 x3_1).f4).length : Int) > 300
       ·rw [if_pos c14] at H
        have c14b0 : decide (300 < (((rd_T26 l0_2 x3_1).f4).length : Int)) = true := decide_eq_true c14
        have c14b1 : decide (300 < ((rd_T26 l0_2 x3_1).f4).length) = true := decide_eq_true (by omega)
        clear c14
        (first | rw [c14b0] | rw [c14b1] | rw [c14b4] | (simp only [i64_w, i32_w]; rw [c14b0]) | skip)
        have H' := Aside0.mk H
        clear H
        have hnb15 := NB295_293.out
        have hnc15 := NB293_295.out
        have hcz16_0 : w11.cell? ⟨gb295, 0, none⟩ = some (.string (⟨#[]⟩ : ByteArray)) := (blk_cell BK295.out 0).trans rfl
        have hcz16_1 : w11.cell? ⟨gb295, 1, none⟩ = some (.slice none 0 0) := (blk_cell BK295.out 1).trans rfl
        have hcz16_2 : w11.cell? ⟨gb295, 2, none⟩ = some (.string (⟨#[]⟩ : ByteArray)) := (blk_cell BK295.out 2).trans rfl
        have hcz16_3 : w11.cell? ⟨gb295, 3, none⟩ = some (.slice none 0 0) := (blk_cell BK295.out 3).trans rfl
        have hcz16_4 : w11.cell? ⟨gb295, 4, none⟩ = some (.slice none 0 0) := (blk_cell BK295.out 4).trans rfl
        have hcz16_5 : w11.cell? ⟨gb295, 5, none⟩ = some (.slice none 0 0) := (blk_cell BK295.out 5).trans rfl
        have hfz16_0 := blk_frozen BK295.out 0
        have hfz16_1 := blk_frozen BK295.out 1
        have hfz16_2 := blk_frozen BK295.out 2
        have hfz16_3 := blk_frozen BK295.out 3
        have hfz16_4 := blk_frozen BK295.out 4
        have hfz16_5 := blk_frozen BK295.out 5
        go_wp2
        go_meet
        case rel => exact ⟨_, (true), (by first | rfl | (simp; done) | (simp [*]; done)), H', ⟨by have := HK1.out; first | omega | exact Nat.le_refl _⟩, ⟨by (with_reducible repeat (first | refine blk_drewN ?_ _ | refine blk_drew ?_ | refine blk_alloc ?_ _)); refine blk_far ?_ NB293_295.out _; (with_reducible repeat (first | refine blk_drewN ?_ _ | refine blk_drew ?_ | refine blk_alloc ?_ _)); refine blk_far ?_ NB293_295.out _; (with_reducible repeat (first | refine blk_drewN ?_ _ | refine blk_drew ?_ | refine blk_alloc ?_ _)); refine blk_far ?_ NB293_295.out _; (with_reducible repeat (first | refine blk_drewN ?_ _ | refine blk_drew ?_ | refine blk_alloc ?_ _)); refine blk_far ?_ NB293_295.out _; (with_reducible repeat (first | refine blk_drewN ?_ _ | refine blk_drew ?_ | refine blk_alloc ?_ _)); refine blk_far ?_ NB293_295.out _; (with_reducible repeat (first | refine blk_drewN ?_ _ | refine blk_drew ?_ | refine blk_alloc ?_ _)); refine blk_far ?_ NB293_295.out _; (with_reducible repeat (first | refine blk_drewN ?_ _ | refine blk_drew ?_ | refine blk_alloc ?_ _)); exact BK293.out⟩, ⟨by (with_reducible repeat (first | refine blk_drewN ?_ _ | refine blk_drew ?_ | refine blk_alloc ?_ _)); refine blk_put (cs := #[.string ((rd_T26 l0_2 x3_1).f0), .slice A294_1 ((rd_T26 l0_2 x3_1).f1).length c294_1, .string ((rd_T26 l0_2 x3_1).f2), .slice A294_3 ((rd_T26 l0_2 x3_1).f3).length c294_3, .slice A294_4 ((rd_T26 l0_2 x3_1).f4).length c294_4, .slice none 0 0]) ?_ 5 _ rfl; (with_reducible repeat (first | refine blk_drewN ?_ _ | refine blk_drew ?_ | refine blk_alloc ?_ _)); refine blk_put (cs := #[.string ((rd_T26 l0_2 x3_1).f0), .slice A294_1 ((rd_T26 l0_2 x3_1).f1).length c294_1, .string ((rd_T26 l0_2 x3_1).f2), .slice A294_3 ((rd_T26 l0_2 x3_1).f3).length c294_3, .slice none 0 0, .slice none 0 0]) ?_ 4 _ rfl; (with_reducible repeat (first | refine blk_drewN ?_ _ | refine blk_drew ?_ | refine blk_alloc ?_ _)); refine blk_put (cs := #[.string ((rd_T26 l0_2 x3_1).f0), .slice A294_1 ((rd_T26 l0_2 x3_1).f1).length c294_1, .string ((rd_T26 l0_2 x3_1).f2), .slice none 0 0, .slice none 0 0, .slice none 0 0]) ?_ 3 _ rfl; (with_reducible repeat (first | refine blk_drewN ?_ _ | refine blk_drew ?_ | refine blk_alloc ?_ _)); refine blk_put (cs := #[.string ((rd_T26 l0_2 x3_1).f0), .slice A294_1 ((rd_T26 l0_2 x3_1).f1).length c294_1, .string (⟨#[]⟩ : ByteArray), .slice none 0 0, .slice none 0 0, .slice none 0 0]) ?_ 2 _ rfl; (with_reducible repeat (first | refine blk_drewN ?_ _ | refine blk_drew ?_ | refine blk_alloc ?_ _)); refine blk_put (cs := #[.string ((rd_T26 l0_2 x3_1).f0), .slice none 0 0, .string (⟨#[]⟩ : ByteArray), .slice none 0 0, .slice none 0 0, .slice none 0 0]) ?_ 1 _ rfl; (with_reducible repeat (first | refine blk_drewN ?_ _ | refine blk_drew ?_ | refine blk_alloc ?_ _)); refine blk_put (cs := #[.string (⟨#[]⟩ : ByteArray), .slice none 0 0, .string (⟨#[]⟩ : ByteArray), .slice none 0 0, .slice none 0 0, .slice none 0 0]) ?_ 0 _ rfl; (with_reducible repeat (first | refine blk_drewN ?_ _ | refine blk_drew ?_ | refine blk_alloc ?_ _)); exact BK295.out⟩, ⟨by repeat (first | (with_reducible first | exact HB.out | apply below_alloc | apply pw_below_drewN | apply below_drew1 | refine below_set ?_ GE293.out | refine below_set ?_ GE295.out) | exact HB.out)⟩⟩
       ·rw [if_neg c14] at H
        have c14b0 : decide (300 < (((rd_T26 l0_2 x3_1).f4).length : Int)) = false := decide_eq_false c14
        have c14b1 : decide (300 < ((rd_T26 l0_2 x3_1).f4).length) = false := decide_eq_false (by omega)
        clear c14
        (first | rw [c14b0] | rw [c14b1] | rw [c14b4] | (simp only [i64_w, i32_w]; rw [c14b0]) | skip)
        have H' := Aside0.mk H
        clear H
        have hnb17 := NB295_293.out
        have hnc17 := NB293_295.out
        have hcz18_0 : w11.cell? ⟨gb295, 0, none⟩ = some (.string (⟨#[]⟩ : ByteArray)) := (blk_cell BK295.out 0).trans rfl
        have hcz18_1 : w11.cell? ⟨gb295, 1, none⟩ = some (.slice none 0 0) := (blk_cell BK295.out 1).trans rfl
        have hcz18_2 : w11.cell? ⟨gb295, 2, none⟩ = some (.string (⟨#[]⟩ : ByteArray)) := (blk_cell BK295.out 2).trans rfl
        have hcz18_3 : w11.cell? ⟨gb295, 3, none⟩ = some (.slice none 0 0) := (blk_cell BK295.out 3).trans rfl
        have hcz18_4 : w11.cell? ⟨gb295, 4, none⟩ = some (.slice none 0 0) := (blk_cell BK295.out 4).trans rfl
        have hcz18_5 : w11.cell? ⟨gb295, 5, none⟩ = some (.slice none 0 0) := (blk_cell BK295.out 5).trans rfl
        have hfz18_0 := blk_frozen BK295.out 0
        have hfz18_1 := blk_frozen BK295.out 1
        have hfz18_2 := blk_frozen BK295.out 2
        have hfz18_3 := blk_frozen BK295.out 3
        have hfz18_4 := blk_frozen BK295.out 4
        have hfz18_5 := blk_frozen BK295.out 5
        go_wp2
        go_meet
        case rel => exact ⟨_, (decide ((((rd_T26 l0_2 x3_1).f5).length : Int) > 30)), (by first | rfl | (simp; done) | (simp [*]; done)), H', ⟨by have := HK1.out; first | omega | exact Nat.le_refl _⟩, ⟨by (with_reducible repeat (first | refine blk_drewN ?_ _ | refine blk_drew ?_ | refine blk_alloc ?_ _)); refine blk_far ?_ NB293_295.out _; (with_reducible repeat (first | refine blk_drewN ?_ _ | refine blk_drew ?_ | refine blk_alloc ?_ _)); refine blk_far ?_ NB293_295.out _; (with_reducible repeat (first | refine blk_drewN ?_ _ | refine blk_drew ?_ | refine blk_alloc ?_ _)); refine blk_far ?_ NB293_295.out _; (with_reducible repeat (first | refine blk_drewN ?_ _ | refine blk_drew ?_ | refine blk_alloc ?_ _)); refine blk_far ?_ NB293_295.out _; (with_reducible repeat (first | refine blk_drewN ?_ _ | refine blk_drew ?_ | refine blk_alloc ?_ _)); refine blk_far ?_ NB293_295.out _; (with_reducible repeat (first | refine blk_drewN ?_ _ | refine blk_drew ?_ | refine blk_alloc ?_ _)); refine blk_far ?_ NB293_295.out _; (with_reducible repeat (first | refine blk_drewN ?_ _ | refine blk_drew ?_ | refine blk_alloc ?_ _)); exact BK293.out⟩, ⟨by (with_reducible repeat (first | refine blk_drewN ?_ _ | refine blk_drew ?_ | refine blk_alloc ?_ _)); refine blk_put (cs := #[.string ((rd_T26 l0_2 x3_1).f0), .slice A294_1 ((rd_T26 l0_2 x3_1).f1).length c294_1, .string ((rd_T26 l0_2 x3_1).f2), .slice A294_3 ((rd_T26 l0_2 x3_1).f3).length c294_3, .slice A294_4 ((rd_T26 l0_2 x3_1).f4).length c294_4, .slice none 0 0]) ?_ 5 _ rfl; (with_reducible repeat (first | refine blk_drewN ?_ _ | refine blk_drew ?_ | refine blk_alloc ?_ _)); refine blk_put (cs := #[.string ((rd_T26 l0_2 x3_1).f0), .slice A294_1 ((rd_T26 l0_2 x3_1).f1).length c294_1, .string ((rd_T26 l0_2 x3_1).f2), .slice A294_3 ((rd_T26 l0_2 x3_1).f3).length c294_3, .slice none 0 0, .slice none 0 0]) ?_ 4 _ rfl; (with_reducible repeat (first | refine blk_drewN ?_ _ | refine blk_drew ?_ | refine blk_alloc ?_ _)); refine blk_put (cs := #[.string ((rd_T26 l0_2 x3_1).f0), .slice A294_1 ((rd_T26 l0_2 x3_1).f1).length c294_1, .string ((rd_T26 l0_2 x3_1).f2), .slice none 0 0, .slice none 0 0, .slice none 0 0]) ?_ 3 _ rfl; (with_reducible repeat (first | refine blk_drewN ?_ _ | refine blk_drew ?_ | refine blk_alloc ?_ _)); refine blk_put (cs := #[.string ((rd_T26 l0_2 x3_1).f0), .slice A294_1 ((rd_T26 l0_2 x3_1).f1).length c294_1, .string (⟨#[]⟩ : ByteArray), .slice none 0 0, .slice none 0 0, .slice none 0 0]) ?_ 2 _ rfl; (with_reducible repeat (first | refine blk_drewN ?_ _ | refine blk_drew ?_ | refine blk_alloc ?_ _)); refine blk_put (cs := #[.string ((rd_T26 l0_2 x3_1).f0), .slice none 0 0, .string (⟨#[]⟩ : ByteArray), .slice none 0 0, .slice none 0 0, .slice none 0 0]) ?_ 1 _ rfl; (with_reducible repeat (first | refine blk_drewN ?_ _ | refine blk_drew ?_ | refine blk_alloc ?_ _)); refine blk_put (cs := #[.string (⟨#[]⟩ : ByteArray), .slice none 0 0, .string (⟨#[]⟩ : ByteArray), .slice none 0 0, .slice none 0 0, .slice none 0 0]) ?_ 0 _ rfl; (with_reducible repeat (first | refine blk_drewN ?_ _ | refine blk_drew ?_ | refine blk_alloc ?_ _)); exact BK295.out⟩, ⟨by repeat (first | (with_reducible first | exact HB.out | apply below_alloc | apply pw_below_drewN | apply below_drew1 | refine below_set ?_ GE293.out | refine below_set ?_ GE295.out) | exact HB.out)⟩⟩
      case rest =>
       clear HC9
       try clear c1
       try clear c2
       try clear c2b0
       try clear c2b1
       try clear p2
       try clear q2
       try clear hx2
       try clear c7
       try clear c7b0
       try clear c8
       try clear c8b0
       try clear c12
       try clear c14
       try clear c14b0
       try clear c14b1
       try clear c15
       try clear c17
       try clear hcz10_0
       try clear hcz10_1
       try clear hcz10_2
       try clear hcz13_0
       try clear hcz13_1
       try clear hcz13_2
       try clear hcz13_3
       try clear hcz13_4
       try clear hcz13_5
       try clear hcz16_0
       try clear hcz16_1
       try clear hcz16_2
       try clear hcz16_3
       try clear hcz16_4
       try clear hcz16_5
       try clear hcz18_0
       try clear hcz18_1
       try clear hcz18_2
       try clear hcz18_3
       try clear hcz18_4
       try clear hcz18_5
       try clear hcz4_0
       try clear hcz4_1
       try clear hcz4_2
       try clear hcz6_0
       try clear hcz6_1
       try clear hcz6_2
       try clear hfz10_0
       try clear hfz10_1
       try clear hfz10_2
       try clear hfz13_0
       try clear hfz13_1
       try clear hfz13_2
       try clear hfz13_3
       try clear hfz13_4
       try clear hfz13_5
       try clear hfz16_0
       try clear hfz16_1
       try clear hfz16_2
       try clear hfz16_3
       try clear hfz16_4
       try clear hfz16_5
       try clear hfz18_0
       try clear hfz18_1
       try clear hfz18_2
       try clear hfz18_3
       try clear hfz18_4
       try clear hfz18_5
       try clear hfz4_0
       try clear hfz4_1
       try clear hfz4_2
       try clear hfz6_0
       try clear hfz6_1
       try clear hfz6_2
       try clear hx294_0
       try clear hx294_1
       try clear hx294_2
       try clear hx294_3
       try clear hx294_4
       try clear hx294_5
       try clear p2
       try clear p294
       try clear q294
       obtain ⟨kq, x31_8, rfl, HA, HJ8, BK293, BK295, HB⟩ := hcut
       cases kq with
       | zero => exact absurd HA.out (by simp [truantlaw20_great.j1])
       | succ kj8 =>
        have H := HA.out
        clear HA
        simp only [truantlaw20_great.j1] at H
        by_cases c19 : x31_8 = true
        ·subst c19
         have H1 : (some true) = some r := by rw [if_pos rfl] at H; exact H
         clear H
         have H := H1
         clear H1
         obtain rfl := Option.some.inj H
         go_wp2
         go_ret
         exact ⟨by first | rfl | (simp [errW_none, errW_some] <;> rfl) | (simp [*, errW_none, errW_some] <;> rfl), by repeat (first | (with_reducible first | exact HB.out | apply below_alloc | apply pw_below_drewN | apply below_drew1 | refine below_set ?_ GE293.out | refine below_set ?_ GE295.out) | exact HB.out)⟩
        ·replace c19 := Bool.eq_false_iff.mpr c19
         subst c19
         have H1 : (truantlaw20_great.l1 kj8 x3_1 0 l0_0 l0_1 l0_2 ((rd_T26 l0_2 x3_1).f0) ((rd_T26 l0_2 x3_1).f1) ((rd_T26 l0_2 x3_1).f2) ((rd_T26 l0_2 x3_1).f3) ((rd_T26 l0_2 x3_1).f4) ((rd_T26 l0_2 x3_1).f5)) = some r := by rw [if_neg (show ¬ (false = true) by decide)] at H; exact H
         clear H
         have H := H1
         clear H1
         have H' := Aside0.mk H
         clear H
         go_wp2
         go_loopg [5] kj8 (fun kq v5 w' => ∃ (x5_3 : Int), v5 = .int .i64 x5_3 ∧ Aside0 (truantlaw20_great.l1 kq x3_1 x5_3 l0_0 l0_1 l0_2 ((rd_T26 l0_2 x3_1).f0) ((rd_T26 l0_2 x3_1).f1) ((rd_T26 l0_2 x3_1).f2) ((rd_T26 l0_2 x3_1).f3) ((rd_T26 l0_2 x3_1).f4) ((rd_T26 l0_2 x3_1).f5) = some r) ∧ Aside0 (kq ≤ kj8) ∧ Aside0 (w'.heap[gb293]? = some (.cells #[(.slice A0_0 l0_0.length c0_0), (.slice A0_1 l0_1.length c0_1), (.slice (some ad294) l0_2.length c0_2)] 48 (0, 0))) ∧ Aside0 (w'.heap[gb295]? = some (.cells #[.string ((rd_T26 l0_2 x3_1).f0), (.slice A294_1 ((rd_T26 l0_2 x3_1).f1).length c294_1), .string ((rd_T26 l0_2 x3_1).f2), (.slice A294_3 ((rd_T26 l0_2 x3_1).f3).length c294_3), (.slice A294_4 ((rd_T26 l0_2 x3_1).f4).length c294_4), (.slice A294_5 ((rd_T26 l0_2 x3_1).f5).length c294_5)] 26 (0, 0))) ∧ Aside0 (Below w.heap.size w w'))
         case atStart => exact ⟨(0), (by first | rfl | (simp; done) | (simp [*]; done)), H', ⟨Nat.le_refl _⟩, ⟨by (with_reducible repeat (first | refine blk_drewN ?_ _ | refine blk_drew ?_ | refine blk_alloc ?_ _)); exact BK293.out⟩, ⟨by (with_reducible repeat (first | refine blk_drewN ?_ _ | refine blk_drew ?_ | refine blk_alloc ?_ _)); exact BK295.out⟩, ⟨by repeat (first | (with_reducible first | exact HB.out | apply below_alloc | apply pw_below_drewN | apply below_drew1 | refine below_set ?_ GE293.out | refine below_set ?_ GE295.out) | exact HB.out)⟩⟩
         case round =>
          clear H'
          try clear c1
          try clear c2
          try clear c2b0
          try clear c2b1
          try clear p2
          try clear q2
          try clear hx2
          try clear c7
          try clear c7b0
          try clear c8
          try clear c8b0
          try clear c12
          try clear c14
          try clear c14b0
          try clear c14b1
          try clear c15
          try clear c17
          try clear c19
          try clear hcz10_0
          try clear hcz10_1
          try clear hcz10_2
          try clear hcz13_0
          try clear hcz13_1
          try clear hcz13_2
          try clear hcz13_3
          try clear hcz13_4
          try clear hcz13_5
          try clear hcz16_0
          try clear hcz16_1
          try clear hcz16_2
          try clear hcz16_3
          try clear hcz16_4
          try clear hcz16_5
          try clear hcz18_0
          try clear hcz18_1
          try clear hcz18_2
          try clear hcz18_3
          try clear hcz18_4
          try clear hcz18_5
          try clear hcz4_0
          try clear hcz4_1
          try clear hcz4_2
          try clear hcz6_0
          try clear hcz6_1
          try clear hcz6_2
          try clear hfz10_0
          try clear hfz10_1
          try clear hfz10_2
          try clear hfz13_0
          try clear hfz13_1
          try clear hfz13_2
          try clear hfz13_3
          try clear hfz13_4
          try clear hfz13_5
          try clear hfz16_0
          try clear hfz16_1
          try clear hfz16_2
          try clear hfz16_3
          try clear hfz16_4
          try clear hfz16_5
          try clear hfz18_0
          try clear hfz18_1
          try clear hfz18_2
          try clear hfz18_3
          try clear hfz18_4
          try clear hfz18_5
          try clear hfz4_0
          try clear hfz4_1
          try clear hfz4_2
          try clear hfz6_0
          try clear hfz6_1
          try clear hfz6_2
          try clear hx294_0
          try clear hx294_1
          try clear hx294_2
          try clear hx294_3
          try clear hx294_4
          try clear hx294_5
          try clear p2
          try clear p294
          try clear q2
          try clear q294
          obtain ⟨x5_3, rfl, HA, HK3, BK293, BK295, HB⟩ := hrel
          cases gk with
          | zero => exact absurd HA.out (by simp [truantlaw20_great.l1])
          | succ k3 =>
           have H := HA.out
           clear HA
           simp only [truantlaw20_great.l1] at H
           by_cases c20 : x5_3 < (((rd_T26 l0_2 x3_1).f5).length : Int)
           ·rw [if_pos c20] at H
            have c20b0 : decide (x5_3 < (((rd_T26 l0_2 x3_1).f5).length : Int)) = true := decide_eq_true c20
            clear c20
            by_cases c21 : 0 ≤ x5_3
            ·rw [if_pos c21] at H
             have c21b0 : decide (0 ≤ x5_3) = true := decide_eq_true c21
             clear c21
             by_cases c22 : (((rd_T40 ((rd_T26 l0_2 x3_1).f5) x5_3).f0).length : Int) > 100
             ·rw [if_pos c22] at H
              have c22b0 : decide (100 < (((rd_T40 ((rd_T26 l0_2 x3_1).f5) x5_3).f0).length : Int)) = true := decide_eq_true c22
              have c22b1 : decide (100 < ((rd_T40 ((rd_T26 l0_2 x3_1).f5) x5_3).f0).length) = true := decide_eq_true (by omega)
              clear c22
              obtain rfl := Option.some.inj H
              have hnb23 := NB295_293.out
              have hnc23 := NB293_295.out
              have hcz24_0 : wr.cell? ⟨gb295, 0, none⟩ = some (.string ((rd_T26 l0_2 x3_1).f0)) := (blk_cell BK295.out 0).trans rfl
              have hcz24_1 : wr.cell? ⟨gb295, 1, none⟩ = some (.slice A294_1 ((rd_T26 l0_2 x3_1).f1).length c294_1) := (blk_cell BK295.out 1).trans rfl
              have hcz24_2 : wr.cell? ⟨gb295, 2, none⟩ = some (.string ((rd_T26 l0_2 x3_1).f2)) := (blk_cell BK295.out 2).trans rfl
              have hcz24_3 : wr.cell? ⟨gb295, 3, none⟩ = some (.slice A294_3 ((rd_T26 l0_2 x3_1).f3).length c294_3) := (blk_cell BK295.out 3).trans rfl
              have hcz24_4 : wr.cell? ⟨gb295, 4, none⟩ = some (.slice A294_4 ((rd_T26 l0_2 x3_1).f4).length c294_4) := (blk_cell BK295.out 4).trans rfl
              have hcz24_5 : wr.cell? ⟨gb295, 5, none⟩ = some (.slice A294_5 ((rd_T26 l0_2 x3_1).f5).length c294_5) := (blk_cell BK295.out 5).trans rfl
              have hfz24_0 := blk_frozen BK295.out 0
              have hfz24_1 := blk_frozen BK295.out 1
              have hfz24_2 := blk_frozen BK295.out 2
              have hfz24_3 := blk_frozen BK295.out 3
              have hfz24_4 := blk_frozen BK295.out 4
              have hfz24_5 := blk_frozen BK295.out 5
              have p296 : 0 ≤ (x5_3 : Int) := of_decide_eq_true (by first | (with_reducible assumption) | assumption)
              have q296 : x5_3 < (((rd_T26 l0_2 x3_1).f5).length : Int) := of_decide_eq_true (by first | (with_reducible assumption) | assumption)
              obtain ⟨ad296, A296_0, c296_0, e296, hx296_0, hx296_1, hx296_2, hx296_3, hx296_4, hl296_0, hi296_0⟩ := at_T40 HR294_5.out x5_3 p296 q296
              cases e296
              replace hx296_0 := (HB.out.cell (World.block_lt_of_cell? w _ hx296_0)).trans hx296_0
              replace hx296_1 := (HB.out.cell (World.block_lt_of_cell? w _ hx296_1)).trans hx296_1
              replace hx296_2 := (HB.out.cell (World.block_lt_of_cell? w _ hx296_2)).trans hx296_2
              replace hx296_3 := (HB.out.cell (World.block_lt_of_cell? w _ hx296_3)).trans hx296_3
              replace hx296_4 := (HB.out.cell (World.block_lt_of_cell? w _ hx296_4)).trans hx296_4
              have HR296_0 := Aside0.mk hi296_0
              have HC296_0 := Aside0.mk hl296_0
              clear hi296_0 hl296_0
              replace p296 := eq_true p296
              replace q296 := eq_true q296
              go_wp2
              go_ret
              exact ⟨by first | rfl | (simp [errW_none, errW_some] <;> rfl) | (simp [*, errW_none, errW_some] <;> rfl), by repeat (first | (with_reducible first | exact HB.out | apply below_alloc | apply pw_below_drewN | apply below_drew1 | refine below_set ?_ GE293.out | refine below_set ?_ GE295.out) | exact HB.out)⟩
             ·rw [if_neg c22] at H
              have c22b0 : decide (100 < (((rd_T40 ((rd_T26 l0_2 x3_1).f5) x5_3).f0).length : Int)) = false := decide_eq_false c22
              have c22b1 : decide (100 < ((rd_T40 ((rd_T26 l0_2 x3_1).f5) x5_3).f0).length) = false := decide_eq_false (by omega)
              clear c22
              have H' := Aside0.mk H
              clear H
              have hnb25 := NB295_293.out
              have hnc25 := NB293_295.out
              have hcz26_0 : wr.cell? ⟨gb295, 0, none⟩ = some (.string ((rd_T26 l0_2 x3_1).f0)) := (blk_cell BK295.out 0).trans rfl
              have hcz26_1 : wr.cell? ⟨gb295, 1, none⟩ = some (.slice A294_1 ((rd_T26 l0_2 x3_1).f1).length c294_1) := (blk_cell BK295.out 1).trans rfl
              have hcz26_2 : wr.cell? ⟨gb295, 2, none⟩ = some (.string ((rd_T26 l0_2 x3_1).f2)) := (blk_cell BK295.out 2).trans rfl
              have hcz26_3 : wr.cell? ⟨gb295, 3, none⟩ = some (.slice A294_3 ((rd_T26 l0_2 x3_1).f3).length c294_3) := (blk_cell BK295.out 3).trans rfl
              have hcz26_4 : wr.cell? ⟨gb295, 4, none⟩ = some (.slice A294_4 ((rd_T26 l0_2 x3_1).f4).length c294_4) := (blk_cell BK295.out 4).trans rfl
              have hcz26_5 : wr.cell? ⟨gb295, 5, none⟩ = some (.slice A294_5 ((rd_T26 l0_2 x3_1).f5).length c294_5) := (blk_cell BK295.out 5).trans rfl
              have hfz26_0 := blk_frozen BK295.out 0
              have hfz26_1 := blk_frozen BK295.out 1
              have hfz26_2 := blk_frozen BK295.out 2
              have hfz26_3 := blk_frozen BK295.out 3
              have hfz26_4 := blk_frozen BK295.out 4
              have hfz26_5 := blk_frozen BK295.out 5
              have p296 : 0 ≤ (x5_3 : Int) := of_decide_eq_true (by first | (with_reducible assumption) | assumption)
              have q296 : x5_3 < (((rd_T26 l0_2 x3_1).f5).length : Int) := of_decide_eq_true (by first | (with_reducible assumption) | assumption)
              obtain ⟨ad296, A296_0, c296_0, e296, hx296_0, hx296_1, hx296_2, hx296_3, hx296_4, hl296_0, hi296_0⟩ := at_T40 HR294_5.out x5_3 p296 q296
              cases e296
              replace hx296_0 := (HB.out.cell (World.block_lt_of_cell? w _ hx296_0)).trans hx296_0
              replace hx296_1 := (HB.out.cell (World.block_lt_of_cell? w _ hx296_1)).trans hx296_1
              replace hx296_2 := (HB.out.cell (World.block_lt_of_cell? w _ hx296_2)).trans hx296_2
              replace hx296_3 := (HB.out.cell (World.block_lt_of_cell? w _ hx296_3)).trans hx296_3
              replace hx296_4 := (HB.out.cell (World.block_lt_of_cell? w _ hx296_4)).trans hx296_4
              have HR296_0 := Aside0.mk hi296_0
              have HC296_0 := Aside0.mk hl296_0
              clear hi296_0 hl296_0
              replace p296 := eq_true p296
              replace q296 := eq_true q296
              go_wp2
              go_roundg k3
              case measure => have := HK1.out; have := HJ8.out; have := HK3.out; omega
              case rel => exact ⟨(wrap64 (x5_3 + 1)), (by first | rfl | (simp; done) | (simp [*]; done)), H', ⟨by have := HK1.out; have := HJ8.out; have := HK3.out; omega⟩, ⟨by (with_reducible repeat (first | refine blk_drewN ?_ _ | refine blk_drew ?_ | refine blk_alloc ?_ _)); exact BK293.out⟩, ⟨by (with_reducible repeat (first | refine blk_drewN ?_ _ | refine blk_drew ?_ | refine blk_alloc ?_ _)); exact BK295.out⟩, ⟨by repeat (first | (with_reducible first | exact HB.out | apply below_alloc | apply pw_below_drewN | apply below_drew1 | refine below_set ?_ GE293.out | refine below_set ?_ GE295.out) | exact HB.out)⟩⟩
            ·rw [if_neg c21] at H
             exact absurd H (by simp)
           ·rw [if_neg c20] at H
            have c20b0 : decide (x5_3 < (((rd_T26 l0_2 x3_1).f5).length : Int)) = false := decide_eq_false c20
            clear c20
            have H' := Aside0.mk H
            clear H
            have hnb27 := NB295_293.out
            have hnc27 := NB293_295.out
            have hcz28_0 : wr.cell? ⟨gb295, 0, none⟩ = some (.string ((rd_T26 l0_2 x3_1).f0)) := (blk_cell BK295.out 0).trans rfl
            have hcz28_1 : wr.cell? ⟨gb295, 1, none⟩ = some (.slice A294_1 ((rd_T26 l0_2 x3_1).f1).length c294_1) := (blk_cell BK295.out 1).trans rfl
            have hcz28_2 : wr.cell? ⟨gb295, 2, none⟩ = some (.string ((rd_T26 l0_2 x3_1).f2)) := (blk_cell BK295.out 2).trans rfl
            have hcz28_3 : wr.cell? ⟨gb295, 3, none⟩ = some (.slice A294_3 ((rd_T26 l0_2 x3_1).f3).length c294_3) := (blk_cell BK295.out 3).trans rfl
            have hcz28_4 : wr.cell? ⟨gb295, 4, none⟩ = some (.slice A294_4 ((rd_T26 l0_2 x3_1).f4).length c294_4) := (blk_cell BK295.out 4).trans rfl
            have hcz28_5 : wr.cell? ⟨gb295, 5, none⟩ = some (.slice A294_5 ((rd_T26 l0_2 x3_1).f5).length c294_5) := (blk_cell BK295.out 5).trans rfl
            have hfz28_0 := blk_frozen BK295.out 0
            have hfz28_1 := blk_frozen BK295.out 1
            have hfz28_2 := blk_frozen BK295.out 2
            have hfz28_3 := blk_frozen BK295.out 3
            have hfz28_4 := blk_frozen BK295.out 4
            have hfz28_5 := blk_frozen BK295.out 5
            go_wp2
            go_roundg k3
            case measure => have := HK1.out; have := HJ8.out; have := HK3.out; omega
            case rel => exact ⟨(wrap64 (x3_1 + 1)), (by first | rfl | (simp; done) | (simp [*]; done)), H', ⟨by have := HK1.out; have := HJ8.out; have := HK3.out; omega⟩, ⟨by (with_reducible repeat (first | refine blk_drewN ?_ _ | refine blk_drew ?_ | refine blk_alloc ?_ _)); exact BK293.out⟩, ⟨by repeat (first | (with_reducible first | exact HB.out | apply below_alloc | apply pw_below_drewN | apply below_drew1 | refine below_set ?_ GE293.out | refine below_set ?_ GE295.out) | exact HB.out)⟩⟩
     ·rw [if_neg c8] at H
      exact absurd H (by simp)
    ·rw [if_neg c7] at H
     have c7b0 : decide (x3_1 < (l0_2.length : Int)) = false := decide_eq_false c7
     clear c7
     obtain rfl := Option.some.inj H
     have hcz29_0 : wr.cell? ⟨gb293, 0, none⟩ = some (.slice A0_0 l0_0.length c0_0) := (blk_cell BK293.out 0).trans rfl
     have hcz29_1 : wr.cell? ⟨gb293, 1, none⟩ = some (.slice A0_1 l0_1.length c0_1) := (blk_cell BK293.out 1).trans rfl
     have hcz29_2 : wr.cell? ⟨gb293, 2, none⟩ = some (.slice A0_2 l0_2.length c0_2) := (blk_cell BK293.out 2).trans rfl
     have hfz29_0 := blk_frozen BK293.out 0
     have hfz29_1 := blk_frozen BK293.out 1
     have hfz29_2 := blk_frozen BK293.out 2
     go_wp2
     go_ret
     exact ⟨by first | rfl | (simp [errW_none, errW_some] <;> rfl) | (simp [*, errW_none, errW_some] <;> rfl), by repeat (first | (with_reducible first | exact HB.out | apply below_alloc | apply pw_below_drewN | apply below_drew1 | refine below_set ?_ GE293.out) | exact HB.out)⟩
/-! ### truantlaw20_has: function 37 -/
def truantlaw20_has.l0 : Nat → List Int → Int → Int → Option (Bool)
 | 0, _, _, _ => none
 | k + 1, x0, x1, x5 => if x5 < (x0.length : Int) then (if 0 ≤ x5 then (if (rd x0 x5) = x1 then (some true) else (truantlaw20_has.l0 k x0 x1 (wrap64 (x5 + 1)))) else (none)) else (some false)
def truantlaw20_has.f (k : Nat) (l0 : List Int) (a1 : Int) : Option (Bool) := truantlaw20_has.l0 k l0 a1 0
theorem truantlaw20_has.mono_l : ∀ k, (∀ y0 y1 y2, LeO (truantlaw20_has.l0 k y0 y1 y2) (truantlaw20_has.l0 (k + 1) y0 y1 y2))
 | 0 => fun _ _ _ r h => by simp [truantlaw20_has.l0] at h
 | k + 1 => by
  have ih0 := truantlaw20_has.mono_l k
  ·intro y0 y1 y2
   unfold truantlaw20_has.l0
   repeat' first
   | (with_reducible exact ih0 _ _ _)
   | (with_reducible exact LeO.refl _)
   | (with_reducible exact LeO.none _)
   | (with_reducible refine LeO.ite ?_ ?_)
   | (with_reducible refine LeO.bind ?_ (fun _ => ?_))
   | exact ih0 _ _ _
   | exact LeO.none _
   | refine LeO.ite ?_ ?_
   | refine LeO.bind ?_ (fun _ => ?_)
theorem truantlaw20_has.mono : ∀ a0 a1 k, LeO (truantlaw20_has.f k a0 a1) (truantlaw20_has.f (k + 1) a0 a1) := by
 intro a0 a1 k
 have ih0 := truantlaw20_has.mono_l k
 unfold truantlaw20_has.f
 repeat' first
   | (with_reducible exact ih0 _ _ _)
   | (with_reducible exact LeO.refl _)
   | (with_reducible exact LeO.none _)
   | (with_reducible refine LeO.ite ?_ ?_)
   | (with_reducible refine LeO.bind ?_ (fun _ => ?_))
   | exact ih0 _ _ _
   | exact LeO.none _
   | refine LeO.ite ?_ ?_
   | refine LeO.bind ?_ (fun _ => ?_)
set_option maxHeartbeats 8000000 in
set_option maxRecDepth 100000 in
theorem truantlaw20_has.calls (k : Nat) (A0 : Option Addr) (c0 : Nat) (l0 : List Int) (a1 : Int) (r : Bool) (w : World) (hr0 : Kd.C (Kd.int .i64) w A0 l0.length l0) (hc0 : l0.length ≤ c0) (h : truantlaw20_has.f k l0 a1 = some r) :
  Calls Try.prog 37 #[.slice A0 l0.length c0, .int .i64 a1] w fun e w' => e = .returned (.bool r) ∧ Drawn0 w w' := by
 have HR0 := Aside0.mk hr0
 have HC0 := Aside0.mk hc0
 clear hr0 hc0
 have H : (truantlaw20_has.l0 k l0 a1 0) = some r := h
 clear h
 have H' := Aside0.mk H
 clear H
 go_enter Try.func37, Try.ntmps37
 go_wp2
 go_loopg [5] k (fun kq v5 w' => ∃ (x5_1 : Int), v5 = .int .i64 x5_1 ∧ Aside0 (truantlaw20_has.l0 kq l0 a1 x5_1 = some r) ∧ Aside0 (kq ≤ k) ∧ Drawn0 w w')
 case atStart => exact ⟨(0), (by first | rfl | (simp; done) | (simp [*]; done)), H', ⟨Nat.le_refl _⟩, by repeat (first | exact Drawn0.refl _ | apply Drawn0.step)⟩
 case round =>
  clear H'
  try clear p2
  obtain ⟨x5_1, rfl, HA, HK1, ⟨m1, rfl⟩⟩ := hrel
  cases gk with
  | zero => exact absurd HA.out (by simp [truantlaw20_has.l0])
  | succ k1 =>
   have H := HA.out
   clear HA
   simp only [truantlaw20_has.l0] at H
   by_cases c3 : x5_1 < (l0.length : Int)
   ·rw [if_pos c3] at H
    have c3b0 : decide (x5_1 < (l0.length : Int)) = true := decide_eq_true c3
    clear c3
    by_cases c4 : 0 ≤ x5_1
    ·rw [if_pos c4] at H
     have c4b0 : decide (0 ≤ x5_1) = true := decide_eq_true c4
     clear c4
     by_cases c5 : (rd l0 x5_1) = a1
     ·rw [if_pos c5] at H
      have c5b0 : ((rd l0 x5_1) == a1) = true := beq_iff_eq.mpr c5
      have c5b1 : ((rd l0 x5_1) != a1) = false := bne_eq_false_iff_eq.mpr c5
      clear c5
      obtain rfl := Option.some.inj H
      have p436 : 0 ≤ (x5_1 : Int) := of_decide_eq_true (by first | (with_reducible assumption) | assumption)
      have q436 : x5_1 < (l0.length : Int) := of_decide_eq_true (by first | (with_reducible assumption) | assumption)
      obtain ⟨ad436, e436, hx436_0⟩ := Kd.at_int HR0.out x5_1 p436 q436
      cases e436
      replace p436 := eq_true p436
      replace q436 := eq_true q436
      go_wp2
      go_ret
      exact ⟨by first | rfl | (simp; done) | (simp [*]; done), by repeat (first | exact Drawn0.refl _ | apply Drawn0.step)⟩
     ·rw [if_neg c5] at H
      have c5b0 : ((rd l0 x5_1) == a1) = false := beq_eq_false_iff_ne.mpr c5
      have c5b1 : ((rd l0 x5_1) != a1) = true := bne_iff_ne.mpr c5
      have H' := Aside0.mk H
      clear H
      have p436 : 0 ≤ (x5_1 : Int) := of_decide_eq_true (by first | (with_reducible assumption) | assumption)
      have q436 : x5_1 < (l0.length : Int) := of_decide_eq_true (by first | (with_reducible assumption) | assumption)
      obtain ⟨ad436, e436, hx436_0⟩ := Kd.at_int HR0.out x5_1 p436 q436
      cases e436
      replace p436 := eq_true p436
      replace q436 := eq_true q436
      go_wp2
      go_roundg k1
      case measure => have := HK1.out; omega
      case rel => exact ⟨(wrap64 (x5_1 + 1)), (by first | rfl | (simp; done) | (simp [*]; done)), H', ⟨by have := HK1.out; omega⟩, by repeat (first | exact Drawn0.refl _ | apply Drawn0.step)⟩
    ·rw [if_neg c4] at H
     exact absurd H (by simp)
   ·rw [if_neg c3] at H
    have c3b0 : decide (x5_1 < (l0.length : Int)) = false := decide_eq_false c3
    clear c3
    obtain rfl := Option.some.inj H
    go_wp2
    go_ret
    exact ⟨by first | rfl | (simp; done) | (simp [*]; done), by repeat (first | exact Drawn0.refl _ | apply Drawn0.step)⟩
/-! ### truantlaw20_SccOrder: function 8 -/
mutual
def truantlaw20_SccOrder.l0 : Nat → List Int → List (List Int) → Int → Int → List (S150) → List (S152) → List (S26) → Option (Bool)
 | 0, _, _, _, _, _, _, _ => none
 | k + 1, x3, x4, x5, x6, x438000, x438001, x438002 => if x6 < (x4.length : Int) then (truantlaw20_SccOrder.l1 k x3 x4 x5 x6 0 x438000 x438001 x438002) else (if x5 = (x438002.length : Int) then (truantlaw20_SccOrder.l2 k x3 0 x438000 x438001 x438002) else (none))
def truantlaw20_SccOrder.l1 : Nat → List Int → List (List Int) → Int → Int → Int → List (S150) → List (S152) → List (S26) → Option (Bool)
 | 0, _, _, _, _, _, _, _, _ => none
 | k + 1, x3, x4, x5, x6, x7, x438000, x438001, x438002 => if 0 ≤ x6 then (if x6 < (x4.length : Int) then (if x7 < ((rd_L6 x4 x6).length : Int) then (if 0 ≤ x7 then (if (rd (rd_L6 x4 x6) x7) < 0 then (none) else (if (rd (rd_L6 x4 x6) x7) ≥ (x3.length : Int) then (none) else (if 0 ≤ (rd (rd_L6 x4 x6) x7) then (if (rd (rd_L6 x4 x6) x7) < (x3.length : Int) then (if (rd x3 (rd (rd_L6 x4 x6) x7)) = 0 then (if x7 > 0 then (if 0 ≤ (wrap64 (x7 - 1)) then (if (wrap64 (x7 - 1)) < ((rd_L6 x4 x6).length : Int) then (if (rd (rd_L6 x4 x6) (wrap64 (x7 - 1))) ≥ (rd (rd_L6 x4 x6) x7) then (none) else ((some (x3.set ((rd (rd_L6 x4 x6) x7) : Int).toNat (wrap64 (x6 + 1)) : List Int)).bind fun y452 => (if ((rd_L6 x4 x6).length : Int) > 1 then ((scc_IsLoop.f k x438000 x438001 x438002 (rd (rd_L6 x4 x6) x7)).bind fun t454 => (if t454 = true then (truantlaw20_SccOrder.l1 k y452 x4 (wrap64 (x5 + 1)) x6 (wrap64 (x7 + 1)) x438000 x438001 x438002) else (none))) else (truantlaw20_SccOrder.l1 k y452 x4 (wrap64 (x5 + 1)) x6 (wrap64 (x7 + 1)) x438000 x438001 x438002)))) else (none)) else (none)) else ((some (x3.set ((rd (rd_L6 x4 x6) x7) : Int).toNat (wrap64 (x6 + 1)) : List Int)).bind fun y455 => (if ((rd_L6 x4 x6).length : Int) > 1 then ((scc_IsLoop.f k x438000 x438001 x438002 (rd (rd_L6 x4 x6) x7)).bind fun t457 => (if t457 = true then (truantlaw20_SccOrder.l1 k y455 x4 (wrap64 (x5 + 1)) x6 (wrap64 (x7 + 1)) x438000 x438001 x438002) else (none))) else (truantlaw20_SccOrder.l1 k y455 x4 (wrap64 (x5 + 1)) x6 (wrap64 (x7 + 1)) x438000 x438001 x438002)))) else (none)) else (none)) else (none)))) else (none)) else (truantlaw20_SccOrder.l0 k x3 x4 x5 (wrap64 (x6 + 1)) x438000 x438001 x438002)) else (none)) else (none)
def truantlaw20_SccOrder.l2 : Nat → List Int → Int → List (S150) → List (S152) → List (S26) → Option (Bool)
 | 0, _, _, _, _, _ => none
 | k + 1, x3, x9, x438000, x438001, x438002 => if x9 < (x3.length : Int) then ((scc_Calls.f x438000 x438001 x438002 x9).bind fun t458 => ((scc_Comes.f x438000 x438001 x438002 x9).bind fun t461 => (truantlaw20_SccOrder.l3 k x3 x9 t458 t461 0 x438000 x438001 x438002))) else (some true)
def truantlaw20_SccOrder.l3 : Nat → List Int → Int → List Int → List Int → Int → List (S150) → List (S152) → List (S26) → Option (Bool)
 | 0, _, _, _, _, _, _, _, _ => none
 | k + 1, x3, x9, x10, x11, x12, x438000, x438001, x438002 => if x12 < (x10.length : Int) then (if 0 ≤ x12 then (if 0 ≤ (rd x10 x12) then (if (rd x10 x12) < (x3.length : Int) then (if 0 ≤ x9 then (if x9 < (x3.length : Int) then (if (rd x3 (rd x10 x12)) > (rd x3 x9) then (none) else ((truantlaw20_has.f k x11 (rd x10 x12)).bind fun t468 => (if t468 = true then (truantlaw20_SccOrder.l3 k x3 x9 x10 x11 (wrap64 (x12 + 1)) x438000 x438001 x438002) else (none)))) else (none)) else (none)) else (none)) else (none)) else (none)) else (truantlaw20_SccOrder.l4 k x3 x9 x11 0 x438000 x438001 x438002)
def truantlaw20_SccOrder.l4 : Nat → List Int → Int → List Int → Int → List (S150) → List (S152) → List (S26) → Option (Bool)
 | 0, _, _, _, _, _, _, _ => none
 | k + 1, x3, x9, x11, x13, x438000, x438001, x438002 => if x13 < (x11.length : Int) then (if 0 ≤ x13 then ((scc_Comes.f x438000 x438001 x438002 (rd x11 x13)).bind fun t470 => (truantlaw20_SccOrder.l5 k x3 x9 x11 x13 t470 0 x438000 x438001 x438002)) else (none)) else (truantlaw20_SccOrder.l2 k x3 (wrap64 (x9 + 1)) x438000 x438001 x438002)
def truantlaw20_SccOrder.l5 : Nat → List Int → Int → List Int → Int → List Int → Int → List (S150) → List (S152) → List (S26) → Option (Bool)
 | 0, _, _, _, _, _, _, _, _, _ => none
 | k + 1, x3, x9, x11, x13, x14, x15, x438000, x438001, x438002 => if x15 < (x14.length : Int) then (if 0 ≤ x15 then ((truantlaw20_has.f k x11 (rd x14 x15)).bind fun t474 => (if t474 = true then (truantlaw20_SccOrder.l5 k x3 x9 x11 x13 x14 (wrap64 (x15 + 1)) x438000 x438001 x438002) else (none))) else (none)) else (if 0 ≤ x13 then (if x13 < (x11.length : Int) then (if 0 ≤ (rd x11 x13) then (if (rd x11 x13) < (x3.length : Int) then (if 0 ≤ x9 then (if x9 < (x3.length : Int) then ((truantlaw20_has.f k x14 x9).bind fun t478 => (if (((rd x3 (rd x11 x13)) == (rd x3 x9)) != t478) = true then (none) else (truantlaw20_SccOrder.l4 k x3 x9 x11 (wrap64 (x13 + 1)) x438000 x438001 x438002))) else (none)) else (none)) else (none)) else (none)) else (none)) else (none))
end
def truantlaw20_SccOrder.f (k : Nat) (l0_0 : List (S150)) (l0_1 : List (S152)) (l0_2 : List (S26)) : Option (Bool) := (truantlaw20_awake.f k).bind fun t438 => (if t438 = true then ((truantlaw20_great.f k l0_0 l0_1 l0_2).bind fun t439 => (if t439 = true then (some true) else (if 0 ≤ (l0_2.length : Int) then (if ((l0_2.length : Int) : Int).toNat ≤ 35184372088832 then ((scc_Knots.f l0_0 l0_1 l0_2).bind fun t443 => (truantlaw20_SccOrder.l0 k (List.replicate ((l0_2.length : Int) : Int).toNat 0) t443 0 0 l0_0 l0_1 l0_2)) else (none)) else (none)))) else (none))
theorem truantlaw20_SccOrder.mono_l : ∀ k, (∀ y0 y1 y2 y3 y4 y5 y6, LeO (truantlaw20_SccOrder.l0 k y0 y1 y2 y3 y4 y5 y6) (truantlaw20_SccOrder.l0 (k + 1) y0 y1 y2 y3 y4 y5 y6)) ∧ (∀ y0 y1 y2 y3 y4 y5 y6 y7, LeO (truantlaw20_SccOrder.l1 k y0 y1 y2 y3 y4 y5 y6 y7) (truantlaw20_SccOrder.l1 (k + 1) y0 y1 y2 y3 y4 y5 y6 y7)) ∧ (∀ y0 y1 y2 y3 y4, LeO (truantlaw20_SccOrder.l2 k y0 y1 y2 y3 y4) (truantlaw20_SccOrder.l2 (k + 1) y0 y1 y2 y3 y4)) ∧ (∀ y0 y1 y2 y3 y4 y5 y6 y7, LeO (truantlaw20_SccOrder.l3 k y0 y1 y2 y3 y4 y5 y6 y7) (truantlaw20_SccOrder.l3 (k + 1) y0 y1 y2 y3 y4 y5 y6 y7)) ∧ (∀ y0 y1 y2 y3 y4 y5 y6, LeO (truantlaw20_SccOrder.l4 k y0 y1 y2 y3 y4 y5 y6) (truantlaw20_SccOrder.l4 (k + 1) y0 y1 y2 y3 y4 y5 y6)) ∧ (∀ y0 y1 y2 y3 y4 y5 y6 y7 y8, LeO (truantlaw20_SccOrder.l5 k y0 y1 y2 y3 y4 y5 y6 y7 y8) (truantlaw20_SccOrder.l5 (k + 1) y0 y1 y2 y3 y4 y5 y6 y7 y8))
 | 0 => ⟨fun _ _ _ _ _ _ _ r h => by simp [truantlaw20_SccOrder.l0] at h, fun _ _ _ _ _ _ _ _ r h => by simp [truantlaw20_SccOrder.l1] at h, fun _ _ _ _ _ r h => by simp [truantlaw20_SccOrder.l2] at h, fun _ _ _ _ _ _ _ _ r h => by simp [truantlaw20_SccOrder.l3] at h, fun _ _ _ _ _ _ _ r h => by simp [truantlaw20_SccOrder.l4] at h, fun _ _ _ _ _ _ _ _ _ r h => by simp [truantlaw20_SccOrder.l5] at h⟩
 | k + 1 => by
  obtain ⟨ih0, ih1, ih2, ih3, ih4, ih5⟩ := truantlaw20_SccOrder.mono_l k
  refine ⟨?_, ?_, ?_, ?_, ?_, ?_⟩
  ·intro y0 y1 y2 y3 y4 y5 y6
   unfold truantlaw20_SccOrder.l0
   repeat' first
   | (with_reducible exact ih0 _ _ _ _ _ _ _)
   | (with_reducible exact ih1 _ _ _ _ _ _ _ _)
   | (with_reducible exact ih2 _ _ _ _ _)
   | (with_reducible exact ih3 _ _ _ _ _ _ _ _)
   | (with_reducible exact ih4 _ _ _ _ _ _ _)
   | (with_reducible exact ih5 _ _ _ _ _ _ _ _ _)
   | (with_reducible exact scc_IsLoop.mono _ _ _ _ _)
   | (with_reducible exact truantlaw20_awake.mono _)
   | (with_reducible exact truantlaw20_great.mono _ _ _ _)
   | (with_reducible exact truantlaw20_has.mono _ _ _)
   | (with_reducible exact LeO.refl _)
   | (with_reducible exact LeO.none _)
   | (with_reducible refine LeO.ite ?_ ?_)
   | (with_reducible refine LeO.bind ?_ (fun _ => ?_))
   | exact ih0 _ _ _ _ _ _ _
   | exact ih1 _ _ _ _ _ _ _ _
   | exact ih2 _ _ _ _ _
   | exact ih3 _ _ _ _ _ _ _ _
   | exact ih4 _ _ _ _ _ _ _
   | exact ih5 _ _ _ _ _ _ _ _ _
   | exact scc_IsLoop.mono _ _ _ _ _
   | exact truantlaw20_awake.mono _
   | exact truantlaw20_great.mono _ _ _ _
   | exact truantlaw20_has.mono _ _ _
   | exact LeO.none _
   | refine LeO.ite ?_ ?_
   | refine LeO.bind ?_ (fun _ => ?_)
  ·intro y0 y1 y2 y3 y4 y5 y6 y7
   unfold truantlaw20_SccOrder.l1
   repeat' first
   | (with_reducible exact ih0 _ _ _ _ _ _ _)
   | (with_reducible exact ih1 _ _ _ _ _ _ _ _)
   | (with_reducible exact ih2 _ _ _ _ _)
   | (with_reducible exact ih3 _ _ _ _ _ _ _ _)
   | (with_reducible exact ih4 _ _ _ _ _ _ _)
   | (with_reducible exact ih5 _ _ _ _ _ _ _ _ _)
   | (with_reducible exact scc_IsLoop.mono _ _ _ _ _)
   | (with_reducible exact truantlaw20_awake.mono _)
   | (with_reducible exact truantlaw20_great.mono _ _ _ _)
   | (with_reducible exact truantlaw20_has.mono _ _ _)
   | (with_reducible exact LeO.refl _)
   | (with_reducible exact LeO.none _)
   | (with_reducible refine LeO.ite ?_ ?_)
   | (with_reducible refine LeO.bind ?_ (fun _ => ?_))
   | exact ih0 _ _ _ _ _ _ _
   | exact ih1 _ _ _ _ _ _ _ _
   | exact ih2 _ _ _ _ _
   | exact ih3 _ _ _ _ _ _ _ _
   | exact ih4 _ _ _ _ _ _ _
   | exact ih5 _ _ _ _ _ _ _ _ _
   | exact scc_IsLoop.mono _ _ _ _ _
   | exact truantlaw20_awake.mono _
   | exact truantlaw20_great.mono _ _ _ _
   | exact truantlaw20_has.mono _ _ _
   | exact LeO.none _
   | refine LeO.ite ?_ ?_
   | refine LeO.bind ?_ (fun _ => ?_)
  ·intro y0 y1 y2 y3 y4
   unfold truantlaw20_SccOrder.l2
   repeat' first
   | (with_reducible exact ih0 _ _ _ _ _ _ _)
   | (with_reducible exact ih1 _ _ _ _ _ _ _ _)
   | (with_reducible exact ih2 _ _ _ _ _)
   | (with_reducible exact ih3 _ _ _ _ _ _ _ _)
   | (with_reducible exact ih4 _ _ _ _ _ _ _)
   | (with_reducible exact ih5 _ _ _ _ _ _ _ _ _)
   | (with_reducible exact scc_IsLoop.mono _ _ _ _ _)
   | (with_reducible exact truantlaw20_awake.mono _)
   | (with_reducible exact truantlaw20_great.mono _ _ _ _)
   | (with_reducible exact truantlaw20_has.mono _ _ _)
   | (with_reducible exact LeO.refl _)
   | (with_reducible exact LeO.none _)
   | (with_reducible refine LeO.ite ?_ ?_)
   | (with_reducible refine LeO.bind ?_ (fun _ => ?_))
   | exact ih0 _ _ _ _ _ _ _
   | exact ih1 _ _ _ _ _ _ _ _
   | exact ih2 _ _ _ _ _
   | exact ih3 _ _ _ _ _ _ _ _
   | exact ih4 _ _ _ _ _ _ _
   | exact ih5 _ _ _ _ _ _ _ _ _
   | exact scc_IsLoop.mono _ _ _ _ _
   | exact truantlaw20_awake.mono _
   | exact truantlaw20_great.mono _ _ _ _
   | exact truantlaw20_has.mono _ _ _
   | exact LeO.none _
   | refine LeO.ite ?_ ?_
   | refine LeO.bind ?_ (fun _ => ?_)
  ·intro y0 y1 y2 y3 y4 y5 y6 y7
   unfold truantlaw20_SccOrder.l3
   repeat' first
   | (with_reducible exact ih0 _ _ _ _ _ _ _)
   | (with_reducible exact ih1 _ _ _ _ _ _ _ _)
   | (with_reducible exact ih2 _ _ _ _ _)
   | (with_reducible exact ih3 _ _ _ _ _ _ _ _)
   | (with_reducible exact ih4 _ _ _ _ _ _ _)
   | (with_reducible exact ih5 _ _ _ _ _ _ _ _ _)
   | (with_reducible exact scc_IsLoop.mono _ _ _ _ _)
   | (with_reducible exact truantlaw20_awake.mono _)
   | (with_reducible exact truantlaw20_great.mono _ _ _ _)
   | (with_reducible exact truantlaw20_has.mono _ _ _)
   | (with_reducible exact LeO.refl _)
   | (with_reducible exact LeO.none _)
   | (with_reducible refine LeO.ite ?_ ?_)
   | (with_reducible refine LeO.bind ?_ (fun _ => ?_))
   | exact ih0 _ _ _ _ _ _ _
   | exact ih1 _ _ _ _ _ _ _ _
   | exact ih2 _ _ _ _ _
   | exact ih3 _ _ _ _ _ _ _ _
   | exact ih4 _ _ _ _ _ _ _
   | exact ih5 _ _ _ _ _ _ _ _ _
   | exact scc_IsLoop.mono _ _ _ _ _
   | exact truantlaw20_awake.mono _
   | exact truantlaw20_great.mono _ _ _ _
   | exact truantlaw20_has.mono _ _ _
   | exact LeO.none _
   | refine LeO.ite ?_ ?_
   | refine LeO.bind ?_ (fun _ => ?_)
  ·intro y0 y1 y2 y3 y4 y5 y6
   unfold truantlaw20_SccOrder.l4
   repeat' first
   | (with_reducible exact ih0 _ _ _ _ _ _ _)
   | (with_reducible exact ih1 _ _ _ _ _ _ _ _)
   | (with_reducible exact ih2 _ _ _ _ _)
   | (with_reducible exact ih3 _ _ _ _ _ _ _ _)
   | (with_reducible exact ih4 _ _ _ _ _ _ _)
   | (with_reducible exact ih5 _ _ _ _ _ _ _ _ _)
   | (with_reducible exact scc_IsLoop.mono _ _ _ _ _)
   | (with_reducible exact truantlaw20_awake.mono _)
   | (with_reducible exact truantlaw20_great.mono _ _ _ _)
   | (with_reducible exact truantlaw20_has.mono _ _ _)
   | (with_reducible exact LeO.refl _)
   | (with_reducible exact LeO.none _)
   | (with_reducible refine LeO.ite ?_ ?_)
   | (with_reducible refine LeO.bind ?_ (fun _ => ?_))
   | exact ih0 _ _ _ _ _ _ _
   | exact ih1 _ _ _ _ _ _ _ _
   | exact ih2 _ _ _ _ _
   | exact ih3 _ _ _ _ _ _ _ _
   | exact ih4 _ _ _ _ _ _ _
   | exact ih5 _ _ _ _ _ _ _ _ _
   | exact scc_IsLoop.mono _ _ _ _ _
   | exact truantlaw20_awake.mono _
   | exact truantlaw20_great.mono _ _ _ _
   | exact truantlaw20_has.mono _ _ _
   | exact LeO.none _
   | refine LeO.ite ?_ ?_
   | refine LeO.bind ?_ (fun _ => ?_)
  ·intro y0 y1 y2 y3 y4 y5 y6 y7 y8
   unfold truantlaw20_SccOrder.l5
   repeat' first
   | (with_reducible exact ih0 _ _ _ _ _ _ _)
   | (with_reducible exact ih1 _ _ _ _ _ _ _ _)
   | (with_reducible exact ih2 _ _ _ _ _)
   | (with_reducible exact ih3 _ _ _ _ _ _ _ _)
   | (with_reducible exact ih4 _ _ _ _ _ _ _)
   | (with_reducible exact ih5 _ _ _ _ _ _ _ _ _)
   | (with_reducible exact scc_IsLoop.mono _ _ _ _ _)
   | (with_reducible exact truantlaw20_awake.mono _)
   | (with_reducible exact truantlaw20_great.mono _ _ _ _)
   | (with_reducible exact truantlaw20_has.mono _ _ _)
   | (with_reducible exact LeO.refl _)
   | (with_reducible exact LeO.none _)
   | (with_reducible refine LeO.ite ?_ ?_)
   | (with_reducible refine LeO.bind ?_ (fun _ => ?_))
   | exact ih0 _ _ _ _ _ _ _
   | exact ih1 _ _ _ _ _ _ _ _
   | exact ih2 _ _ _ _ _
   | exact ih3 _ _ _ _ _ _ _ _
   | exact ih4 _ _ _ _ _ _ _
   | exact ih5 _ _ _ _ _ _ _ _ _
   | exact scc_IsLoop.mono _ _ _ _ _
   | exact truantlaw20_awake.mono _
   | exact truantlaw20_great.mono _ _ _ _
   | exact truantlaw20_has.mono _ _ _
   | exact LeO.none _
   | refine LeO.ite ?_ ?_
   | refine LeO.bind ?_ (fun _ => ?_)
theorem truantlaw20_SccOrder.mono : ∀ a0 a1 a2 k, LeO (truantlaw20_SccOrder.f k a0 a1 a2) (truantlaw20_SccOrder.f (k + 1) a0 a1 a2) := by
 intro a0 a1 a2 k
 obtain ⟨ih0, ih1, ih2, ih3, ih4, ih5⟩ := truantlaw20_SccOrder.mono_l k
 unfold truantlaw20_SccOrder.f
 repeat' first
   | (with_reducible exact ih0 _ _ _ _ _ _ _)
   | (with_reducible exact ih1 _ _ _ _ _ _ _ _)
   | (with_reducible exact ih2 _ _ _ _ _)
   | (with_reducible exact ih3 _ _ _ _ _ _ _ _)
   | (with_reducible exact ih4 _ _ _ _ _ _ _)
   | (with_reducible exact ih5 _ _ _ _ _ _ _ _ _)
   | (with_reducible exact scc_IsLoop.mono _ _ _ _ _)
   | (with_reducible exact truantlaw20_awake.mono _)
   | (with_reducible exact truantlaw20_great.mono _ _ _ _)
   | (with_reducible exact truantlaw20_has.mono _ _ _)
   | (with_reducible exact LeO.refl _)
   | (with_reducible exact LeO.none _)
   | (with_reducible refine LeO.ite ?_ ?_)
   | (with_reducible refine LeO.bind ?_ (fun _ => ?_))
   | exact ih0 _ _ _ _ _ _ _
   | exact ih1 _ _ _ _ _ _ _ _
   | exact ih2 _ _ _ _ _
   | exact ih3 _ _ _ _ _ _ _ _
   | exact ih4 _ _ _ _ _ _ _
   | exact ih5 _ _ _ _ _ _ _ _ _
   | exact scc_IsLoop.mono _ _ _ _ _
   | exact truantlaw20_awake.mono _
   | exact truantlaw20_great.mono _ _ _ _
   | exact truantlaw20_has.mono _ _ _
   | exact LeO.none _
   | refine LeO.ite ?_ ?_
   | refine LeO.bind ?_ (fun _ => ?_)
def truantlaw20_SccOrder.T31 : Bool × List (List Nat × List Nat) := (true, [([], []), ([], []), ([], []), ([1, 2], [1, 2]), ([3], [3]), ([0, 4], [0, 4]), ([5], [5]), ([], []), ([], []), ([7, 8], [7, 8]), ([9], [9]), ([6, 10], [6, 10]), ([11], [11]), ([12], [12]), ([12], [12]), ([12], [12]), ([14, 15, 12], [12, 14, 15]), ([16, 12], [12, 16]), ([13, 17, 12, 12], [12, 13, 17]), ([18, 12], [12, 18]), ([12, 19], [12, 19])])
def truantlaw20_SccOrder.B31 : List Nat := [0, 0, 0, 6, 14, 31, 63, 0, 0, 384, 896, 2047, 4095, 8191, 8191, 8191, 57343, 122879, 262143, 524287, 1048575]
theorem truantlaw20_SccOrder.tab31 : rtab .any (opsOf Try.f8 31) = truantlaw20_SccOrder.T31 := by kernel_rfl
theorem truantlaw20_SccOrder.bits31 : waitsOk truantlaw20_SccOrder.T31.2 truantlaw20_SccOrder.B31 = true := by kernel_rfl
def truantlaw20_SccOrder.T42 : Bool × List (List Nat × List Nat) := (true, [([], []), ([], []), ([], []), ([1, 2], [1, 2]), ([3], [3]), ([0, 4], [0, 4]), ([5], [5]), ([], []), ([], []), ([7, 8], [7, 8]), ([9], [9]), ([6, 10], [6, 10]), ([], []), ([], []), ([12, 13], [12, 13]), ([11, 14], [11, 14])])
def truantlaw20_SccOrder.B42 : List Nat := [0, 0, 0, 6, 14, 31, 63, 0, 0, 384, 896, 2047, 0, 0, 12288, 32767]
theorem truantlaw20_SccOrder.tab42 : rtab .any (opsOf Try.f8 42) = truantlaw20_SccOrder.T42 := by kernel_rfl
theorem truantlaw20_SccOrder.bits42 : waitsOk truantlaw20_SccOrder.T42.2 truantlaw20_SccOrder.B42 = true := by kernel_rfl
set_option maxHeartbeats 8000000 in
set_option maxRecDepth 100000 in
theorem truantlaw20_SccOrder.calls (k : Nat) (A0_0 : Option Addr) (c0_0 : Nat) (l0_0 : List (S150)) (A0_1 : Option Addr) (c0_1 : Nat) (l0_1 : List (S152)) (A0_2 : Option Addr) (c0_2 : Nat) (l0_2 : List (S26)) (r : Bool) (w : World) (hr0_0 : Kd.C k150 w A0_0 l0_0.length l0_0) (hc0_0 : l0_0.length ≤ c0_0) (hr0_1 : Kd.C k152 w A0_1 l0_1.length l0_1) (hc0_1 : l0_1.length ≤ c0_1) (hr0_2 : Kd.C k26 w A0_2 l0_2.length l0_2) (hc0_2 : l0_2.length ≤ c0_2) (h : truantlaw20_SccOrder.f k l0_0 l0_1 l0_2 = some r) :
  Calls Try.prog 8 #[.agg #[.slice A0_0 l0_0.length c0_0, .slice A0_1 l0_1.length c0_1, .slice A0_2 l0_2.length c0_2]] w fun e w' => e = .returned (.bool r) ∧ Below w.heap.size w w' := by
 have hu48 := Try.underlying48
 have HR0_0 := Aside0.mk hr0_0
 have HC0_0 := Aside0.mk hc0_0
 clear hr0_0 hc0_0
 have HR0_1 := Aside0.mk hr0_1
 have HC0_1 := Aside0.mk hc0_1
 clear hr0_1 hc0_1
 have HR0_2 := Aside0.mk hr0_2
 have HC0_2 := Aside0.mk hc0_2
 clear hr0_2 hc0_2
 have HB := Aside0.mk (Below.refl w.heap.size w)
 have H : ((truantlaw20_awake.f k).bind fun t438 => (if t438 = true then ((truantlaw20_great.f k l0_0 l0_1 l0_2).bind fun t439 => (if t439 = true then (some true) else (if 0 ≤ (l0_2.length : Int) then (if ((l0_2.length : Int) : Int).toNat ≤ 35184372088832 then ((scc_Knots.f l0_0 l0_1 l0_2).bind fun t443 => (truantlaw20_SccOrder.l0 k (List.replicate ((l0_2.length : Int) : Int).toNat 0) t443 0 0 l0_0 l0_1 l0_2)) else (none)) else (none)))) else (none))) = some r := h
 clear h
 replace H := Option.bind_eq_some_iff.mp H
 obtain ⟨t438, A20, H⟩ := H
 replace H : (if t438 = true then ((truantlaw20_great.f k l0_0 l0_1 l0_2).bind fun t439 => (if t439 = true then (some true) else (if 0 ≤ (l0_2.length : Int) then (if ((l0_2.length : Int) : Int).toNat ≤ 35184372088832 then ((scc_Knots.f l0_0 l0_1 l0_2).bind fun t443 => (truantlaw20_SccOrder.l0 k (List.replicate ((l0_2.length : Int) : Int).toNat 0) t443 0 0 l0_0 l0_1 l0_2)) else (none)) else (none)))) else (none)) = some r := H
 have A2 := Aside0.mk A20
 clear A20
 by_cases c3 : t438 = true
 ·subst c3
  have H1 : ((truantlaw20_great.f k l0_0 l0_1 l0_2).bind fun t439 => (if t439 = true then (some true) else (if 0 ≤ (l0_2.length : Int) then (if ((l0_2.length : Int) : Int).toNat ≤ 35184372088832 then ((scc_Knots.f l0_0 l0_1 l0_2).bind fun t443 => (truantlaw20_SccOrder.l0 k (List.replicate ((l0_2.length : Int) : Int).toNat 0) t443 0 0 l0_0 l0_1 l0_2)) else (none)) else (none)))) = some r := by rw [if_pos rfl] at H; exact H
  clear H
  have H := H1
  clear H1
  replace H := Option.bind_eq_some_iff.mp H
  obtain ⟨t439, A40, H⟩ := H
  replace H : (if t439 = true then (some true) else (if 0 ≤ (l0_2.length : Int) then (if ((l0_2.length : Int) : Int).toNat ≤ 35184372088832 then ((scc_Knots.f l0_0 l0_1 l0_2).bind fun t443 => (truantlaw20_SccOrder.l0 k (List.replicate ((l0_2.length : Int) : Int).toNat 0) t443 0 0 l0_0 l0_1 l0_2)) else (none)) else (none))) = some r := H
  have A4 := Aside0.mk A40
  clear A40
  by_cases c5 : t439 = true
  ·subst c5
   have H1 : (some true) = some r := by rw [if_pos rfl] at H; exact H
   clear H
   have H := H1
   clear H1
   obtain rfl := Option.some.inj H
   go_enter Try.func8, Try.ntmps8
   go_wp2_with (first | ((with_reducible refine gate_dst (N := 1) rfl ?_); (try (refine gate_guard (by rfl) ?_; dsimp only)); refine box_event ?hg (N := 1) ?hd (cs := #[.slice A0_0 l0_0.length c0_0, .slice A0_1 l0_1.length c0_1, .slice A0_2 l0_2.length c0_2]) (t := 48) ?hr ?_; (case hd => rfl); (case hg => rfl); (case hr => first | (go_simp; done) | (go_simp; rfl)); intro gb437 hg w6 hbox hb; have n0_ := Aside0.mk (below_step (by repeat (first | (with_reducible first | exact HB.out | apply below_alloc | apply pw_below_drewN | apply below_drew1) | exact HB.out)) hb); have n1_ := Aside0.mk (hbox); have n2_ := Aside0.mk ((by rw [hg]; exact (below_size (by repeat (first | (with_reducible first | exact HB.out | apply below_alloc | apply pw_below_drewN | apply below_drew1) | exact HB.out))) : w.heap.size ≤ gb437)); have n3_ := Aside0.mk ((by rw [hg]; exact (below_size (by repeat (first | (with_reducible first | exact HB.out | apply below_alloc | apply pw_below_drewN | apply below_drew1) | exact HB.out))) : w.heap.size ≤ gb437)); clear HB; have HB := n0_; have BK437 := n1_; have GW437 := n2_; have GE437 := n3_; clear n0_ n1_ n2_ n3_; clear hb hbox hg) | ((with_reducible refine gate_callee (f := 27) rfl ?_); refine goesL_ (some 16) rfl rfl Try.func27 (by kernel_rfl) rfl #[] rfl (by (try simp only [List.map_toArray, List.map_cons, List.map_nil]); first | done | rfl | (simp only [List.length_drop, List.length_take]; rfl)) ?_; (with_reducible refine (truantlaw20_awake.calls k  true _ A2.out).mono ?_); rintro e w7 ⟨rfl, hb⟩; refine ⟨_, rfl, ?_⟩; have n0_ := Aside0.mk (blk_below (g := gb437) (o := .cells #[.slice A0_0 l0_0.length c0_0, .slice A0_1 l0_1.length c0_1, .slice A0_2 l0_2.length c0_2] 48 (0, 0)) (by (with_reducible repeat (first | refine blk_drewN ?_ _ | refine blk_drew ?_ | refine blk_alloc ?_ _)); exact BK437.out) hb); have n1_ := Aside0.mk (below_step (by repeat (first | (with_reducible first | exact HB.out | apply below_alloc | apply pw_below_drewN | apply below_drew1 | refine below_set ?_ GE437.out) | exact HB.out)) hb); clear BK437; clear HB; have BK437 := n0_; have HB := n1_; clear n0_ n1_; (try clear hb); (try clear hb2); (try clear hk); (try clear hi); have hcz8_0 : w7.cell? ⟨gb437, 0, none⟩ = some (.slice A0_0 l0_0.length c0_0) := (blk_cell BK437.out 0).trans rfl; have hcz8_1 : w7.cell? ⟨gb437, 1, none⟩ = some (.slice A0_1 l0_1.length c0_1) := (blk_cell BK437.out 1).trans rfl; have hcz8_2 : w7.cell? ⟨gb437, 2, none⟩ = some (.slice A0_2 l0_2.length c0_2) := (blk_cell BK437.out 2).trans rfl; have hfz8_0 := blk_frozen BK437.out 0; have hfz8_1 := blk_frozen BK437.out 1; have hfz8_2 := blk_frozen BK437.out 2) | ((with_reducible refine gate_callee (f := 28) rfl ?_); refine goesL_ (some 19) rfl rfl Try.func28 (by kernel_rfl) rfl #[.agg #[.slice A0_0 l0_0.length c0_0, .slice A0_1 l0_1.length c0_1, .slice A0_2 l0_2.length c0_2]] rfl (by (try simp only [List.map_toArray, List.map_cons, List.map_nil]); first | done | rfl | (simp only [List.length_drop, List.length_take]; rfl)) ?_; (with_reducible refine (truantlaw20_great.calls k _ _ l0_0 _ _ l0_1 _ _ l0_2 true _ ?side1 ?side2 ?side3 ?side4 ?side5 ?side6 A4.out).mono ?_); (case side1 => repeat (first | exact (Kd.C_below HR0_0.out HB.out) | (with_reducible refine Kd.C_alloc ?_ _) | (with_reducible refine Kd.C_drewN ?_ _) | (with_reducible refine Kd.C_drew ?_))); (case side2 => exact HC0_0.out); (case side3 => repeat (first | exact (Kd.C_below HR0_1.out HB.out) | (with_reducible refine Kd.C_alloc ?_ _) | (with_reducible refine Kd.C_drewN ?_ _) | (with_reducible refine Kd.C_drew ?_))); (case side4 => exact HC0_1.out); (case side5 => repeat (first | exact (Kd.C_below HR0_2.out HB.out) | (with_reducible refine Kd.C_alloc ?_ _) | (with_reducible refine Kd.C_drewN ?_ _) | (with_reducible refine Kd.C_drew ?_))); (case side6 => exact HC0_2.out); rintro e w9 ⟨rfl, hb⟩; refine ⟨_, rfl, ?_⟩; have n0_ := Aside0.mk (blk_below (g := gb437) (o := .cells #[.slice A0_0 l0_0.length c0_0, .slice A0_1 l0_1.length c0_1, .slice A0_2 l0_2.length c0_2] 48 (0, 0)) (by (with_reducible repeat (first | refine blk_drewN ?_ _ | refine blk_drew ?_ | refine blk_alloc ?_ _)); exact BK437.out) hb); have n1_ := Aside0.mk (below_step (by repeat (first | (with_reducible first | exact HB.out | apply below_alloc | apply pw_below_drewN | apply below_drew1 | refine below_set ?_ GE437.out) | exact HB.out)) hb); clear BK437; clear HB; have BK437 := n0_; have HB := n1_; clear n0_ n1_; (try clear hb); (try clear hb2); (try clear hk); (try clear hi)))
   go_ret
   exact ⟨by first | rfl | (simp [errW_none, errW_some] <;> rfl) | (simp [*, errW_none, errW_some] <;> rfl), by repeat (first | (with_reducible first | exact HB.out | apply below_alloc | apply pw_below_drewN | apply below_drew1 | refine below_set ?_ GE437.out) | exact HB.out)⟩
  ·replace c5 := Bool.eq_false_iff.mpr c5
   subst c5
   have H1 : (if 0 ≤ (l0_2.length : Int) then (if ((l0_2.length : Int) : Int).toNat ≤ 35184372088832 then ((scc_Knots.f l0_0 l0_1 l0_2).bind fun t443 => (truantlaw20_SccOrder.l0 k (List.replicate ((l0_2.length : Int) : Int).toNat 0) t443 0 0 l0_0 l0_1 l0_2)) else (none)) else (none)) = some r := by rw [if_neg (show ¬ (false = true) by decide)] at H; exact H
   clear H
   have H := H1
   clear H1
   by_cases c10 : 0 ≤ (l0_2.length : Int)
   ·rw [if_pos c10] at H
    have c10b0 := eq_true c10
    have c10b1 : decide (0 ≤ (l0_2.length : Int)) = true := decide_eq_true c10
    clear c10
    by_cases c11 : ((l0_2.length : Int) : Int).toNat ≤ 35184372088832
    ·rw [if_pos c11] at H
     have c11b0 := eq_true c11
     have c11b1 : decide (((l0_2.length : Int) : Int).toNat ≤ 35184372088832) = true := decide_eq_true c11
     clear c11
     obtain ⟨y440, hy440⟩ : ∃ y_ : List Int, y_ = (List.replicate ((l0_2.length : Int) : Int).toNat 0) := ⟨_, rfl⟩
     replace H : ((scc_Knots.f l0_0 l0_1 l0_2).bind fun t443 => (truantlaw20_SccOrder.l0 k y440 t443 0 0 l0_0 l0_1 l0_2)) = some r := by first | (rw [hy440]; with_reducible exact H) | (have H2_ := (Option.bind_some _ _).symm.trans H; rw [hy440]; with_reducible exact H2_) | (have H2_ := (Option.bind_some _ _).symm.trans H; with_reducible exact H2_) | with_reducible exact H | (rw [hy440]; exact H) | exact H
     have Ny440 := Aside0.mk hy440
     clear hy440
     replace H := Option.bind_eq_some_iff.mp H
     obtain ⟨t443, A120, H⟩ := H
     replace H : (truantlaw20_SccOrder.l0 k y440 t443 0 0 l0_0 l0_1 l0_2) = some r := H
     have A12 := Aside0.mk A120
     clear A120
     have H' := Aside0.mk H
     clear H
     go_enter Try.func8, Try.ntmps8
     go_wp2_with (first | ((with_reducible refine gate_dst (N := 1) rfl ?_); (try (refine gate_guard (by rfl) ?_; dsimp only)); refine box_event ?hg (N := 1) ?hd (cs := #[.slice A0_0 l0_0.length c0_0, .slice A0_1 l0_1.length c0_1, .slice A0_2 l0_2.length c0_2]) (t := 48) ?hr ?_; (case hd => rfl); (case hg => rfl); (case hr => first | (go_simp; done) | (go_simp; rfl)); intro gb437 hg w13 hbox hb; have n0_ := Aside0.mk (below_step (by repeat (first | (with_reducible first | exact HB.out | apply below_alloc | apply pw_below_drewN | apply below_drew1) | exact HB.out)) hb); have n1_ := Aside0.mk (hbox); have n2_ := Aside0.mk ((by rw [hg]; exact (below_size (by repeat (first | (with_reducible first | exact HB.out | apply below_alloc | apply pw_below_drewN | apply below_drew1) | exact HB.out))) : w.heap.size ≤ gb437)); have n3_ := Aside0.mk ((by rw [hg]; exact (below_size (by repeat (first | (with_reducible first | exact HB.out | apply below_alloc | apply pw_below_drewN | apply below_drew1) | exact HB.out))) : w.heap.size ≤ gb437)); clear HB; have HB := n0_; have BK437 := n1_; have GW437 := n2_; have GE437 := n3_; clear n0_ n1_ n2_ n3_; clear hb hbox hg) | ((with_reducible refine gate_callee (f := 27) rfl ?_); refine goesL_ (some 16) rfl rfl Try.func27 (by kernel_rfl) rfl #[] rfl (by (try simp only [List.map_toArray, List.map_cons, List.map_nil]); first | done | rfl | (simp only [List.length_drop, List.length_take]; rfl)) ?_; (with_reducible refine (truantlaw20_awake.calls k  true _ A2.out).mono ?_); rintro e w14 ⟨rfl, hb⟩; refine ⟨_, rfl, ?_⟩; have n0_ := Aside0.mk (blk_below (g := gb437) (o := .cells #[.slice A0_0 l0_0.length c0_0, .slice A0_1 l0_1.length c0_1, .slice A0_2 l0_2.length c0_2] 48 (0, 0)) (by (with_reducible repeat (first | refine blk_drewN ?_ _ | refine blk_drew ?_ | refine blk_alloc ?_ _)); exact BK437.out) hb); have n1_ := Aside0.mk (below_step (by repeat (first | (with_reducible first | exact HB.out | apply below_alloc | apply pw_below_drewN | apply below_drew1 | refine below_set ?_ GE437.out) | exact HB.out)) hb); clear BK437; clear HB; have BK437 := n0_; have HB := n1_; clear n0_ n1_; (try clear hb); (try clear hb2); (try clear hk); (try clear hi); have hcz15_0 : w14.cell? ⟨gb437, 0, none⟩ = some (.slice A0_0 l0_0.length c0_0) := (blk_cell BK437.out 0).trans rfl; have hcz15_1 : w14.cell? ⟨gb437, 1, none⟩ = some (.slice A0_1 l0_1.length c0_1) := (blk_cell BK437.out 1).trans rfl; have hcz15_2 : w14.cell? ⟨gb437, 2, none⟩ = some (.slice A0_2 l0_2.length c0_2) := (blk_cell BK437.out 2).trans rfl; have hfz15_0 := blk_frozen BK437.out 0; have hfz15_1 := blk_frozen BK437.out 1; have hfz15_2 := blk_frozen BK437.out 2) | ((with_reducible refine gate_callee (f := 28) rfl ?_); refine goesL_ (some 19) rfl rfl Try.func28 (by kernel_rfl) rfl #[.agg #[.slice A0_0 l0_0.length c0_0, .slice A0_1 l0_1.length c0_1, .slice A0_2 l0_2.length c0_2]] rfl (by (try simp only [List.map_toArray, List.map_cons, List.map_nil]); first | done | rfl | (simp only [List.length_drop, List.length_take]; rfl)) ?_; (with_reducible refine (truantlaw20_great.calls k _ _ l0_0 _ _ l0_1 _ _ l0_2 false _ ?side1 ?side2 ?side3 ?side4 ?side5 ?side6 A4.out).mono ?_); (case side1 => repeat (first | exact (Kd.C_below HR0_0.out HB.out) | (with_reducible refine Kd.C_alloc ?_ _) | (with_reducible refine Kd.C_drewN ?_ _) | (with_reducible refine Kd.C_drew ?_))); (case side2 => exact HC0_0.out); (case side3 => repeat (first | exact (Kd.C_below HR0_1.out HB.out) | (with_reducible refine Kd.C_alloc ?_ _) | (with_reducible refine Kd.C_drewN ?_ _) | (with_reducible refine Kd.C_drew ?_))); (case side4 => exact HC0_1.out); (case side5 => repeat (first | exact (Kd.C_below HR0_2.out HB.out) | (with_reducible refine Kd.C_alloc ?_ _) | (with_reducible refine Kd.C_drewN ?_ _) | (with_reducible refine Kd.C_drew ?_))); (case side6 => exact HC0_2.out); rintro e w16 ⟨rfl, hb⟩; refine ⟨_, rfl, ?_⟩; have n0_ := Aside0.mk (blk_below (g := gb437) (o := .cells #[.slice A0_0 l0_0.length c0_0, .slice A0_1 l0_1.length c0_1, .slice A0_2 l0_2.length c0_2] 48 (0, 0)) (by (with_reducible repeat (first | refine blk_drewN ?_ _ | refine blk_drew ?_ | refine blk_alloc ?_ _)); exact BK437.out) hb); have n1_ := Aside0.mk (below_step (by repeat (first | (with_reducible first | exact HB.out | apply below_alloc | apply pw_below_drewN | apply below_drew1 | refine below_set ?_ GE437.out) | exact HB.out)) hb); clear BK437; clear HB; have BK437 := n0_; have HB := n1_; clear n0_ n1_; (try clear hb); (try clear hb2); (try clear hk); (try clear hi); have hcz17_0 : w16.cell? ⟨gb437, 0, none⟩ = some (.slice A0_0 l0_0.length c0_0) := (blk_cell BK437.out 0).trans rfl; have hcz17_1 : w16.cell? ⟨gb437, 1, none⟩ = some (.slice A0_1 l0_1.length c0_1) := (blk_cell BK437.out 1).trans rfl; have hcz17_2 : w16.cell? ⟨gb437, 2, none⟩ = some (.slice A0_2 l0_2.length c0_2) := (blk_cell BK437.out 2).trans rfl; have hfz17_0 := blk_frozen BK437.out 0; have hfz17_1 := blk_frozen BK437.out 1; have hfz17_2 := blk_frozen BK437.out 2) | ((with_reducible refine gate_dst (N := 23) rfl ?_); (try (refine gate_guard (by rfl) ?_; dsimp only)); refine Kd.R_make (Kd.int .i64) _ 3 rfl (N := 23) rfl 34 _ _ rfl (l0_2.length : Int) rfl rfl Try.underlying34 (.int .i64 0) 8 info3 rfl (by decide) (by omega) 0 (ok := fun _ => True) (okp := fun _ => True) rfl (fun _ hk => hk) trivial (of_decide_eq_true (by first | (with_reducible assumption) | assumption)) (Nat.le_trans (Nat.mul_le_mul_right _ (of_decide_eq_true (by first | (with_reducible assumption) | assumption) : (l0_2.length : Int).toNat ≤ 35184372088832)) (by omega)) (Below.refl _ _) (Nat.le_refl _) ?_; intro v441 w18 ho19 hb hg_ hnew_; clear hg_ hnew_; (first | rw [← Ny440.out] at ho19 | (simp only [Int.reduceToNat] at ho19; rw [← Ny440.out] at ho19)); have n0_ := Aside0.mk (Kd.R_lower ho19 (below_size (by repeat (first | (with_reducible first | exact HB.out | apply below_alloc | apply pw_below_drewN | apply below_drew1 | refine below_set ?_ GE437.out) | exact HB.out)))); have n1_ := Aside0.mk (blk_below (g := gb437) (o := .cells #[.slice A0_0 l0_0.length c0_0, .slice A0_1 l0_1.length c0_1, .slice A0_2 l0_2.length c0_2] 48 (0, 0)) (by (with_reducible repeat (first | refine blk_drewN ?_ _ | refine blk_drew ?_ | refine blk_alloc ?_ _)); exact BK437.out) hb); have n2_ := Aside0.mk (below_step (by repeat (first | (with_reducible first | exact HB.out | apply below_alloc | apply pw_below_drewN | apply below_drew1 | refine below_set ?_ GE437.out) | exact HB.out)) hb); clear BK437; clear HB; have HO442 := n0_; have BK437 := n1_; have HB := n2_; clear n0_ n1_ n2_; clear hb ho19; have hcz20_0 : w18.cell? ⟨gb437, 0, none⟩ = some (.slice A0_0 l0_0.length c0_0) := (blk_cell BK437.out 0).trans rfl; have hcz20_1 : w18.cell? ⟨gb437, 1, none⟩ = some (.slice A0_1 l0_1.length c0_1) := (blk_cell BK437.out 1).trans rfl; have hcz20_2 : w18.cell? ⟨gb437, 2, none⟩ = some (.slice A0_2 l0_2.length c0_2) := (blk_cell BK437.out 2).trans rfl; have hfz20_0 := blk_frozen BK437.out 0; have hfz20_1 := blk_frozen BK437.out 1; have hfz20_2 := blk_frozen BK437.out 2) | ((with_reducible refine gate_callee (f := 35) rfl ?_); refine goesL_ (some 25) rfl rfl Try.func35 (by kernel_rfl) rfl #[.agg #[.slice A0_0 l0_0.length c0_0, .slice A0_1 l0_1.length c0_1, .slice A0_2 l0_2.length c0_2]] rfl (by (try simp only [List.map_toArray, List.map_cons, List.map_nil]); first | done | rfl | (simp only [List.length_drop, List.length_take]; rfl)) ?_; (with_reducible refine (scc_Knots.calls _ _ l0_0 _ _ l0_1 _ _ l0_2 t443 _ ?side1 ?side2 ?side3 ?side4 ?side5 ?side6 A12.out).mono ?_); (case side1 => repeat (first | exact (Kd.C_below HR0_0.out HB.out) | (with_reducible refine Kd.C_alloc ?_ _) | (with_reducible refine Kd.C_drewN ?_ _) | (with_reducible refine Kd.C_drew ?_))); (case side2 => exact HC0_0.out); (case side3 => repeat (first | exact (Kd.C_below HR0_1.out HB.out) | (with_reducible refine Kd.C_alloc ?_ _) | (with_reducible refine Kd.C_drewN ?_ _) | (with_reducible refine Kd.C_drew ?_))); (case side4 => exact HC0_1.out); (case side5 => repeat (first | exact (Kd.C_below HR0_2.out HB.out) | (with_reducible refine Kd.C_alloc ?_ _) | (with_reducible refine Kd.C_drewN ?_ _) | (with_reducible refine Kd.C_drew ?_))); (case side6 => exact HC0_2.out); rintro e w21 ⟨v444, rfl, ho0, hb⟩; refine ⟨_, rfl, ?_⟩; have n0_ := Aside0.mk (Kd.R_below (by (with_reducible repeat (first | apply Kd.R_alloc | apply Kd.R_drewN | apply Kd.R_drew)); exact HO442.out) hb); have n1_ := Aside0.mk (Kd.S_lower (Kd.S_new' ho0 (Kd.R_lt (by (with_reducible repeat (first | apply Kd.R_alloc | apply Kd.R_drewN | apply Kd.R_drew)); exact HO442.out))) (below_size (by repeat (first | (with_reducible first | exact HB.out | apply below_alloc | apply pw_below_drewN | apply below_drew1 | refine below_set ?_ GE437.out) | exact HB.out)))); have n2_ := Aside0.mk (blk_below (g := gb437) (o := .cells #[.slice A0_0 l0_0.length c0_0, .slice A0_1 l0_1.length c0_1, .slice A0_2 l0_2.length c0_2] 48 (0, 0)) (by (with_reducible repeat (first | refine blk_drewN ?_ _ | refine blk_drew ?_ | refine blk_alloc ?_ _)); exact BK437.out) hb); have n3_ := Aside0.mk (below_step (by repeat (first | (with_reducible first | exact HB.out | apply below_alloc | apply pw_below_drewN | apply below_drew1 | refine below_set ?_ GE437.out) | exact HB.out)) hb); clear HO442; clear BK437; clear HB; have HO442 := n0_; have HO445 := n1_; have BK437 := n2_; have HB := n3_; clear n0_ n1_ n2_ n3_; (try clear hb); (try clear hb2); (try clear hk); (try clear hi); (try clear ho0)))
     go_loopg [5, 6] k (fun kq v5 v6 w' => ∃ (x3_1 : List Int) (x5_1 : Int) (x6_1 : Int), v5 = .int .i64 x5_1 ∧ v6 = .int .i64 x6_1 ∧ Aside0 (truantlaw20_SccOrder.l0 kq x3_1 t443 x5_1 x6_1 l0_0 l0_1 l0_2 = some r) ∧ Aside0 (kq ≤ k) ∧ Aside0 (Kd.R (Kd.int .i64) 3 w' w.heap.size (fun _ => True) v441 x3_1) ∧ Aside0 (Kd.S (Kd.slice 3 (Kd.int .i64)) 34 w' w.heap.size (fun k_ => some k_ ≠ (v441 : Value).ownBlock) v444 t443) ∧ Aside0 (w'.heap[gb437]? = some (.cells #[(.slice A0_0 l0_0.length c0_0), (.slice A0_1 l0_1.length c0_1), (.slice A0_2 l0_2.length c0_2)] 48 (0, 0))) ∧ Aside0 (Below w.heap.size w w'))
     case atStart => exact ⟨(y440), (0), (0), (by first | rfl | (simp; done) | (simp [*]; done)), (by first | rfl | (simp; done) | (simp [*]; done)), H', ⟨Nat.le_refl _⟩, ⟨by (with_reducible repeat (first | apply Kd.R_alloc | apply Kd.R_drewN | apply Kd.R_drew)); exact HO442.out⟩, ⟨by (with_reducible repeat (first | apply Kd.S_alloc | apply Kd.S_drewN | apply Kd.S_drew)); exact Kd.S_mono HO445.out (fun _ hk => hk.2)⟩, ⟨by (with_reducible repeat (first | refine blk_drewN ?_ _ | refine blk_drew ?_ | refine blk_alloc ?_ _)); exact BK437.out⟩, ⟨by repeat (first | (with_reducible first | exact HB.out | apply below_alloc | apply pw_below_drewN | apply below_drew1 | refine below_set ?_ GE437.out) | exact HB.out)⟩⟩
     case round =>
      clear H'
      try clear c1
      try clear c2
      try clear p2
      try clear c3
      try clear c5
      try clear c8
      try clear c10
      try clear c10b0
      try clear c10b1
      try clear c11
      try clear c11b0
      try clear c11b1
      try clear hcz15_0
      try clear hcz15_1
      try clear hcz15_2
      try clear hcz17_0
      try clear hcz17_1
      try clear hcz17_2
      try clear hcz20_0
      try clear hcz20_1
      try clear hcz20_2
      try clear hcz8_0
      try clear hcz8_1
      try clear hcz8_2
      try clear hfz15_0
      try clear hfz15_1
      try clear hfz15_2
      try clear hfz17_0
      try clear hfz17_1
      try clear hfz17_2
      try clear hfz20_0
      try clear hfz20_1
      try clear hfz20_2
      try clear hfz8_0
      try clear hfz8_1
      try clear hfz8_2
      obtain ⟨x3_1, x5_1, x6_1, rfl, rfl, HA, HK1, HO_3, HO_4, BK437, HB⟩ := hrel
      cases gk with
      | zero => exact absurd HA.out (by simp [truantlaw20_SccOrder.l0])
      | succ k1 =>
       have H := HA.out
       clear HA
       simp only [truantlaw20_SccOrder.l0] at H
       by_cases c22 : x6_1 < (t443.length : Int)
       ·rw [if_pos c22] at H
        have c22b0 : decide (x6_1 < (t443.length : Int)) = true := decide_eq_true c22
        clear c22
        have H' := Aside0.mk H
        clear H
        obtain ⟨Ao23, co23, eo23⟩ := Kd.S_slice HO_4.out
        subst eo23
        go_wp2
        go_loopg [5, 7] k1 (fun kq v5 v7 w' => ∃ (x3_2 : List Int) (x5_2 : Int) (x7_2 : Int), v5 = .int .i64 x5_2 ∧ v7 = .int .i64 x7_2 ∧ Aside0 (truantlaw20_SccOrder.l1 kq x3_2 t443 x5_2 x6_1 x7_2 l0_0 l0_1 l0_2 = some r) ∧ Aside0 (kq ≤ k1) ∧ Aside0 (Kd.R (Kd.int .i64) 3 w' w.heap.size (fun _ => True) v441 x3_2) ∧ Aside0 (Kd.S (Kd.slice 3 (Kd.int .i64)) 34 w' w.heap.size (fun k_ => some k_ ≠ (v441 : Value).ownBlock) (.slice Ao23 t443.length co23) t443) ∧ Aside0 (w'.heap[gb437]? = some (.cells #[(.slice A0_0 l0_0.length c0_0), (.slice A0_1 l0_1.length c0_1), (.slice A0_2 l0_2.length c0_2)] 48 (0, 0))) ∧ Aside0 (Below w.heap.size w w'))
        case atStart => exact ⟨(x3_1), (x5_1), (0), (by first | rfl | (simp; done) | (simp [*]; done)), (by first | rfl | (simp; done) | (simp [*]; done)), H', ⟨Nat.le_refl _⟩, ⟨by (with_reducible repeat (first | apply Kd.R_alloc | apply Kd.R_drewN | apply Kd.R_drew)); exact HO_3.out⟩, ⟨by (with_reducible repeat (first | apply Kd.S_alloc | apply Kd.S_drewN | apply Kd.S_drew)); exact HO_4.out⟩, ⟨by (with_reducible repeat (first | refine blk_drewN ?_ _ | refine blk_drew ?_ | refine blk_alloc ?_ _)); exact BK437.out⟩, ⟨by repeat (first | (with_reducible first | exact HB.out | apply below_alloc | apply pw_below_drewN | apply below_drew1 | refine below_set ?_ GE437.out) | exact HB.out)⟩⟩
        case round =>
         clear H'
         try clear c1
         try clear c2
         try clear p2
         try clear c3
         try clear c5
         try clear c8
         try clear c10
         try clear c10b0
         try clear c10b1
         try clear c11
         try clear c11b0
         try clear c11b1
         try clear c22
         try clear c22b0
         try clear hcz15_0
         try clear hcz15_1
         try clear hcz15_2
         try clear hcz17_0
         try clear hcz17_1
         try clear hcz17_2
         try clear hcz20_0
         try clear hcz20_1
         try clear hcz20_2
         try clear hcz8_0
         try clear hcz8_1
         try clear hcz8_2
         try clear hfz15_0
         try clear hfz15_1
         try clear hfz15_2
         try clear hfz17_0
         try clear hfz17_1
         try clear hfz17_2
         try clear hfz20_0
         try clear hfz20_1
         try clear hfz20_2
         try clear hfz8_0
         try clear hfz8_1
         try clear hfz8_2
         try clear p2
         obtain ⟨x3_2, x5_2, x7_2, rfl, rfl, HA, HK2, HO_3, HO_4, BK437, HB⟩ := hrel
         cases gk with
         | zero => exact absurd HA.out (by simp [truantlaw20_SccOrder.l1])
         | succ k2 =>
          have H := HA.out
          clear HA
          simp only [truantlaw20_SccOrder.l1] at H
          by_cases c24 : 0 ≤ x6_1
          ·rw [if_pos c24] at H
           have c24b0 : decide (0 ≤ x6_1) = true := decide_eq_true c24
           clear c24
           by_cases c25 : x6_1 < (t443.length : Int)
           ·rw [if_pos c25] at H
            have c25b0 : decide (x6_1 < (t443.length : Int)) = true := decide_eq_true c25
            clear c25
            by_cases c26 : x7_2 < ((rd_L6 t443 x6_1).length : Int)
            ·rw [if_pos c26] at H
             have c26b0 : decide (x7_2 < ((rd_L6 t443 x6_1).length : Int)) = true := decide_eq_true c26
             clear c26
             by_cases c27 : 0 ≤ x7_2
             ·rw [if_pos c27] at H
              have c27b0 : decide (0 ≤ x7_2) = true := decide_eq_true c27
              clear c27
              by_cases c28 : (rd (rd_L6 t443 x6_1) x7_2) < 0
              ·rw [if_pos c28] at H
               exact absurd H (by simp)
              ·rw [if_neg c28] at H
               have c28b0 : decide ((rd (rd_L6 t443 x6_1) x7_2) < 0) = false := decide_eq_false c28
               clear c28
               by_cases c29 : (rd (rd_L6 t443 x6_1) x7_2) ≥ (x3_2.length : Int)
               ·rw [if_pos c29] at H
                exact absurd H (by simp)
               ·rw [if_neg c29] at H
                have c29b0 : decide ((x3_2.length : Int) ≤ (rd (rd_L6 t443 x6_1) x7_2)) = false := decide_eq_false c29
                clear c29
                by_cases c30 : 0 ≤ (rd (rd_L6 t443 x6_1) x7_2)
                ·rw [if_pos c30] at H
                 have c30b0 : decide (0 ≤ (rd (rd_L6 t443 x6_1) x7_2)) = true := decide_eq_true c30
                 clear c30
                 by_cases c31 : (rd (rd_L6 t443 x6_1) x7_2) < (x3_2.length : Int)
                 ·rw [if_pos c31] at H
                  have c31b0 : decide ((rd (rd_L6 t443 x6_1) x7_2) < (x3_2.length : Int)) = true := decide_eq_true c31
                  clear c31
                  by_cases c32 : (rd x3_2 (rd (rd_L6 t443 x6_1) x7_2)) = 0
                  ·rw [if_pos c32] at H
                   have c32b0 : ((rd x3_2 (rd (rd_L6 t443 x6_1) x7_2)) == 0) = true := beq_iff_eq.mpr c32
                   have c32b1 : ((rd x3_2 (rd (rd_L6 t443 x6_1) x7_2)) != 0) = false := bne_eq_false_iff_eq.mpr c32
                   clear c32
                   by_cases c33 : x7_2 > 0
                   ·rw [if_pos c33] at H
                    have c33b0 : decide (0 < x7_2) = true := decide_eq_true c33
                    clear c33
                    obtain ⟨ji34, hji34⟩ : ∃ j_ : Int, (wrap64 (x7_2 - 1)) = j_ := ⟨_, rfl⟩
                    replace H : (if 0 ≤ (ji34) then (if (ji34) < ((rd_L6 t443 x6_1).length : Int) then (if (rd (rd_L6 t443 x6_1) (ji34)) ≥ (rd (rd_L6 t443 x6_1) x7_2) then (none) else ((some (x3_2.set ((rd (rd_L6 t443 x6_1) x7_2) : Int).toNat (wrap64 (x6_1 + 1)) : List Int)).bind fun y452 => (if ((rd_L6 t443 x6_1).length : Int) > 1 then ((scc_IsLoop.f k2 l0_0 l0_1 l0_2 (rd (rd_L6 t443 x6_1) x7_2)).bind fun t454 => (if t454 = true then (truantlaw20_SccOrder.l1 k2 y452 t443 (wrap64 (x5_2 + 1)) x6_1 (wrap64 (x7_2 + 1)) l0_0 l0_1 l0_2) else (none))) else (truantlaw20_SccOrder.l1 k2 y452 t443 (wrap64 (x5_2 + 1)) x6_1 (wrap64 (x7_2 + 1)) l0_0 l0_1 l0_2)))) else (none)) else (none)) = some r := by first | (rw [hji34] at H; exact H) | (simp only [hji34] at H ⊢; exact H)
                    have hji34w : (IntKind.i64.wrap (x7_2 - 1)) = ji34 := (i64_w _).trans hji34
                    by_cases c35 : 0 ≤ (ji34)
                    ·rw [if_pos c35] at H
                     have c35b0 : decide (0 ≤ (ji34)) = true := decide_eq_true c35
                     clear c35
                     by_cases c36 : (ji34) < ((rd_L6 t443 x6_1).length : Int)
                     ·rw [if_pos c36] at H
                      have c36b0 : decide ((ji34) < ((rd_L6 t443 x6_1).length : Int)) = true := decide_eq_true c36
                      clear c36
                      by_cases c37 : (rd (rd_L6 t443 x6_1) (ji34)) ≥ (rd (rd_L6 t443 x6_1) x7_2)
                      ·rw [if_pos c37] at H
                       exact absurd H (by simp)
                      ·rw [if_neg c37] at H
                       have c37b0 : decide ((rd (rd_L6 t443 x6_1) x7_2) ≤ (rd (rd_L6 t443 x6_1) (ji34))) = false := decide_eq_false c37
                       clear c37
                       obtain ⟨y452, hy452⟩ : ∃ y_ : List Int, y_ = (x3_2.set ((rd (rd_L6 t443 x6_1) x7_2) : Int).toNat (wrap64 (x6_1 + 1))) := ⟨_, rfl⟩
                       replace H : (if ((rd_L6 t443 x6_1).length : Int) > 1 then ((scc_IsLoop.f k2 l0_0 l0_1 l0_2 (rd (rd_L6 t443 x6_1) x7_2)).bind fun t454 => (if t454 = true then (truantlaw20_SccOrder.l1 k2 y452 t443 (wrap64 (x5_2 + 1)) x6_1 (wrap64 (x7_2 + 1)) l0_0 l0_1 l0_2) else (none))) else (truantlaw20_SccOrder.l1 k2 y452 t443 (wrap64 (x5_2 + 1)) x6_1 (wrap64 (x7_2 + 1)) l0_0 l0_1 l0_2)) = some r := by first | (rw [hy452]; with_reducible exact H) | (have H2_ := (Option.bind_some _ _).symm.trans H; rw [hy452]; with_reducible exact H2_) | (have H2_ := (Option.bind_some _ _).symm.trans H; with_reducible exact H2_) | with_reducible exact H | (rw [hy452]; exact H) | exact H
                       have Ny452 := Aside0.mk hy452
                       clear hy452
                       by_cases c39 : ((rd_L6 t443 x6_1).length : Int) > 1
                       ·rw [if_pos c39] at H
                        have c39b0 : decide (1 < ((rd_L6 t443 x6_1).length : Int)) = true := decide_eq_true c39
                        have c39b1 : decide (1 < (rd_L6 t443 x6_1).length) = true := decide_eq_true (by omega)
                        clear c39
                        replace H := Option.bind_eq_some_iff.mp H
                        obtain ⟨t454, A400, H⟩ := H
                        replace H : (if t454 = true then (truantlaw20_SccOrder.l1 k2 y452 t443 (wrap64 (x5_2 + 1)) x6_1 (wrap64 (x7_2 + 1)) l0_0 l0_1 l0_2) else (none)) = some r := H
                        have A40 := Aside0.mk A400
                        clear A400
                        by_cases c41 : t454 = true
                        ·subst c41
                         have H1 : (truantlaw20_SccOrder.l1 k2 y452 t443 (wrap64 (x5_2 + 1)) x6_1 (wrap64 (x7_2 + 1)) l0_0 l0_1 l0_2) = some r := by rw [if_pos rfl] at H; exact H
                         clear H
                         have H := H1
                         clear H1
                         have H' := Aside0.mk H
                         clear H
                         have p446 : 0 ≤ (x6_1 : Int) := of_decide_eq_true (by first | (with_reducible assumption) | assumption)
                         have q446 : x6_1 < (t443.length : Int) := of_decide_eq_true (by first | (with_reducible assumption) | assumption)
                         obtain ⟨ad446, A446_0, c446_0, e446, hx446_0, hl446_0, hi446_0⟩ := at_L6 (Kd.S_reads' HO_4.out).2.2 x6_1 p446 q446
                         cases e446
                         obtain ⟨ce446, hce446, hMe446, hcc446⟩ := Kd.S_get HO_4.out [] x6_1 p446 (by first | exact q446 | exact of_decide_eq_true (by first | (with_reducible assumption) | assumption) | (have e_ := (Kd.S_reads' HO_4.out).1; omega))
                         obtain ⟨ve446_0, rfl, ge446_0⟩ := hMe446
                         have hv446_0 := hcc446 0 _ rfl
                         rw [Nat.add_zero, show ((Kd.slice 3 (Kd.int .i64))).sz = 1 from rfl, Nat.mul_one] at hv446_0
                         replace hv446_0 := Option.some.inj (hv446_0.symm.trans hx446_0)
                         rw [hv446_0] at ge446_0
                         have HL446_0 := Aside0.mk (show Kd.R (Kd.int .i64) 3 _ _ _ _ (rd_L6 t443 x6_1) from ge446_0)
                         clear hv446_0 ge446_0
                         clear hcc446 hce446
                         have HR446_0 := Aside0.mk hi446_0
                         have HC446_0 := Aside0.mk hl446_0
                         clear hi446_0 hl446_0
                         replace p446 := eq_true p446
                         replace q446 := eq_true q446
                         have p447 : 0 ≤ (x6_1 : Int) := of_decide_eq_true (by first | (with_reducible assumption) | assumption)
                         have q447 : x6_1 < (t443.length : Int) := of_decide_eq_true (by first | (with_reducible assumption) | assumption)
                         obtain ⟨ad447, A447_0, c447_0, e447, hx447_0, hl447_0, hi447_0⟩ := at_L6 (Kd.S_reads' HO_4.out).2.2 x6_1 p447 q447
                         obtain rfl : ad446 = ad447 := (by injection e447)
                         obtain ⟨ce447, hce447, hMe447, hcc447⟩ := Kd.S_get HO_4.out [] x6_1 p447 (by first | exact q447 | exact of_decide_eq_true (by first | (with_reducible assumption) | assumption) | (have e_ := (Kd.S_reads' HO_4.out).1; omega))
                         obtain ⟨ve447_0, rfl, ge447_0⟩ := hMe447
                         have hv447_0 := hcc447 0 _ rfl
                         rw [Nat.add_zero, show ((Kd.slice 3 (Kd.int .i64))).sz = 1 from rfl, Nat.mul_one] at hv447_0
                         replace hv447_0 := Option.some.inj (hv447_0.symm.trans hx447_0)
                         rw [hv447_0] at ge447_0
                         have HL447_0 := Aside0.mk (show Kd.R (Kd.int .i64) 3 _ _ _ _ (rd_L6 t443 x6_1) from ge447_0)
                         clear hv447_0 ge447_0
                         clear hcc447 hce447
                         have HR447_0 := Aside0.mk hi447_0
                         have HC447_0 := Aside0.mk hl447_0
                         clear hi447_0 hl447_0
                         replace p447 := eq_true p447
                         replace q447 := eq_true q447
                         have ea_ := Option.some.inj (hx446_0.symm.trans hx447_0)
                         injection ea_ with ea_ en_ ec_
                         subst ea_
                         subst ec_
                         clear en_
                         have p448 : 0 ≤ (x7_2 : Int) := of_decide_eq_true (by first | (with_reducible assumption) | assumption)
                         have q448 : x7_2 < ((rd_L6 t443 x6_1).length : Int) := of_decide_eq_true (by first | (with_reducible assumption) | assumption)
                         obtain ⟨ad448, e448, hx448_0⟩ := Kd.at_int (by repeat (first | (with_reducible exact HR447_0.out) | (with_reducible refine Kd.C_alloc ?_ _) | (with_reducible refine Kd.C_drewN ?_ _) | (with_reducible refine Kd.C_drew ?_) | exact HR447_0.out)) x7_2 p448 q448
                         cases e448
                         replace p448 := eq_true p448
                         replace q448 := eq_true q448
                         obtain ⟨Ao42, co42, eo42⟩ := Kd.R_slice HO_3.out
                         subst eo42
                         have p449 : 0 ≤ ((rd (rd_L6 t443 x6_1) x7_2) : Int) := of_decide_eq_true (by first | (with_reducible assumption) | assumption)
                         have q449 : (rd (rd_L6 t443 x6_1) x7_2) < (x3_2.length : Int) := of_decide_eq_true (by first | (with_reducible assumption) | assumption)
                         obtain ⟨ad449, e449, hx449_0⟩ := Kd.at_int (Kd.R_reads' HO_3.out).2.2 (rd (rd_L6 t443 x6_1) x7_2) p449 q449
                         cases e449
                         replace p449 := eq_true p449
                         replace q449 := eq_true q449
                         have p450 : 0 ≤ (x6_1 : Int) := of_decide_eq_true (by first | (with_reducible assumption) | assumption)
                         have q450 : x6_1 < (t443.length : Int) := of_decide_eq_true (by first | (with_reducible assumption) | assumption)
                         obtain ⟨ad450, A450_0, c450_0, e450, hx450_0, hl450_0, hi450_0⟩ := at_L6 (Kd.S_reads' HO_4.out).2.2 x6_1 p450 q450
                         obtain rfl : ad446 = ad450 := (by injection e450)
                         obtain ⟨ce450, hce450, hMe450, hcc450⟩ := Kd.S_get HO_4.out [] x6_1 p450 (by first | exact q450 | exact of_decide_eq_true (by first | (with_reducible assumption) | assumption) | (have e_ := (Kd.S_reads' HO_4.out).1; omega))
                         obtain ⟨ve450_0, rfl, ge450_0⟩ := hMe450
                         have hv450_0 := hcc450 0 _ rfl
                         rw [Nat.add_zero, show ((Kd.slice 3 (Kd.int .i64))).sz = 1 from rfl, Nat.mul_one] at hv450_0
                         replace hv450_0 := Option.some.inj (hv450_0.symm.trans hx450_0)
                         rw [hv450_0] at ge450_0
                         have HL450_0 := Aside0.mk (show Kd.R (Kd.int .i64) 3 _ _ _ _ (rd_L6 t443 x6_1) from ge450_0)
                         clear hv450_0 ge450_0
                         clear hcc450 hce450
                         have HR450_0 := Aside0.mk hi450_0
                         have HC450_0 := Aside0.mk hl450_0
                         clear hi450_0 hl450_0
                         replace p450 := eq_true p450
                         replace q450 := eq_true q450
                         have ea_ := Option.some.inj (hx446_0.symm.trans hx450_0)
                         injection ea_ with ea_ en_ ec_
                         subst ea_
                         subst ec_
                         clear en_
                         have p451 : 0 ≤ ((ji34) : Int) := of_decide_eq_true (by first | (with_reducible assumption) | assumption)
                         have q451 : (ji34) < ((rd_L6 t443 x6_1).length : Int) := of_decide_eq_true (by first | (with_reducible assumption) | assumption)
                         obtain ⟨ad451, e451, hx451_0⟩ := Kd.at_int (by repeat (first | (with_reducible exact HR450_0.out) | (with_reducible refine Kd.C_alloc ?_ _) | (with_reducible refine Kd.C_drewN ?_ _) | (with_reducible refine Kd.C_drew ?_) | exact HR450_0.out)) (ji34) p451 q451
                         cases e451
                         replace p451 := eq_true p451
                         replace q451 := eq_true q451
                         have p38 : 0 ≤ ((rd (rd_L6 t443 x6_1) x7_2) : Int) := of_decide_eq_true (by first | (with_reducible assumption) | assumption)
                         have q38 : ((rd (rd_L6 t443 x6_1) x7_2) : Int) < ((x3_2.length : Int) : Int) := of_decide_eq_true (by first | (with_reducible assumption) | assumption)
                         obtain ⟨go38, co38, eo38, gb38, gl38, cl38, HG38⟩ := Kd.R_form HO_3.out (by omega)
                         (first | cases eo38 | (injection eo38 with ea_ en_ ec_; (first | subst ea_ | (injection ea_ with ea_; subst ea_)); subst ec_; clear en_))
                         have GB38 := Aside0.mk gb38
                         have GG38 := Aside0.mk HG38
                         clear gb38 gl38 HG38
                         (first | simp only [add_plain] at hx449_0 | skip)
                         obtain ⟨hx38_0, hf38_0⟩ := Kd.R_celln 0 HO_3.out ((rd (rd_L6 t443 x6_1) x7_2) : Int) p38 q38
                         replace p38 := eq_true p38
                         replace q38 := eq_true q38
                         have HP43 := Kd.R_putg HO_3.out ((rd (rd_L6 t443 x6_1) x7_2) : Int) (wrap64 (x6_1 + 1))
                         go_wp2_with (first | ((with_reducible refine gate_store (t := 3) (p := 83) rfl ?_); refine store_event (t := 3) (p := 83) (v := ?vo_w44) (w1 := (wr.setCell ⟨go38, ((rd (rd_L6 t443 x6_1) x7_2) : Int).toNat, none⟩ (.int .i64 (wrap64 (x6_1 + 1))))) ?hg ?ho ?hn ?hr ?_; (case ho => rfl); (case hg => rfl); (case hn => rfl); (case hr => first | (go_simp; done) | (go_simp; rfl)); intro w44 hw; have hg : wr.grownBy w44 (some go38) := (by rw [hw]; exact HP43.2); have hp_ : Kd.R (Kd.int .i64) 3 w44 w.heap.size (fun _ => True) (.slice (some ⟨go38, 0, none⟩) x3_2.length co42) y452 := (by rw [hw, Ny452.out]; exact HP43.1); clear HP43; have n0_ := Aside0.mk (hp_); have n1_ := Aside0.mk (Kd.S_after (v := (.slice (some ⟨go38, 0, none⟩) x3_2.length co42)) (v1 := (.slice (some ⟨go38, 0, none⟩) x3_2.length co42)) (ok := (fun _ => True)) (by (with_reducible repeat (first | apply Kd.S_alloc | apply Kd.S_drewN | apply Kd.S_drew)); exact Kd.S_mono HO_4.out (fun _ hk => ⟨trivial, hk⟩)) hg (.inl rfl)); have n2_ := Aside0.mk (blk_grown (g := gb437) (o := .cells #[.slice A0_0 l0_0.length c0_0, .slice A0_1 l0_1.length c0_1, .slice A0_2 l0_2.length c0_2] 48 (0, 0)) (by (with_reducible repeat (first | refine blk_drewN ?_ _ | refine blk_drew ?_ | refine blk_alloc ?_ _)); exact BK437.out) hg (Kd.R_ne HO_3.out BK437.out (by decide))); have n3_ := Aside0.mk (Kd.R_after (v := (.slice (some ⟨go38, 0, none⟩) x3_2.length co42)) (v1 := (.slice (some ⟨go38, 0, none⟩) x3_2.length co42)) (ok := (fun k_ => some k_ ≠ (.slice (some ad446) t443.length co23 : Value).ownBlock)) (by (with_reducible repeat (first | apply Kd.R_alloc | apply Kd.R_drewN | apply Kd.R_drew)); exact Kd.R_mono HL446_0.out (fun _ hk => ⟨hk.2, hk.1⟩)) hg (.inl rfl)); have n4_ := Aside0.mk (Kd.R_after (v := (.slice (some ⟨go38, 0, none⟩) x3_2.length co42)) (v1 := (.slice (some ⟨go38, 0, none⟩) x3_2.length co42)) (ok := (fun k_ => some k_ ≠ (.slice (some ad446) t443.length co23 : Value).ownBlock)) (by (with_reducible repeat (first | apply Kd.R_alloc | apply Kd.R_drewN | apply Kd.R_drew)); exact Kd.R_mono HL447_0.out (fun _ hk => ⟨hk.2, hk.1⟩)) hg (.inl rfl)); have n5_ := Aside0.mk (Kd.R_after (v := (.slice (some ⟨go38, 0, none⟩) x3_2.length co42)) (v1 := (.slice (some ⟨go38, 0, none⟩) x3_2.length co42)) (ok := (fun k_ => some k_ ≠ (.slice (some ad446) t443.length co23 : Value).ownBlock)) (by (with_reducible repeat (first | apply Kd.R_alloc | apply Kd.R_drewN | apply Kd.R_drew)); exact Kd.R_mono HL450_0.out (fun _ hk => ⟨hk.2, hk.1⟩)) hg (.inl rfl)); have n6_ := Aside0.mk ((by rw [hw]; exact below_set (HB.out) GB38.out : Below w.heap.size w w44)); clear HO_3; clear HO_4; clear BK437; clear HL446_0; clear HL447_0; clear HL450_0; clear HB; have HO_3 := n0_; have HO_4 := n1_; have BK437 := n2_; have HL446_0 := n3_; have HL447_0 := n4_; have HL450_0 := n5_; have HB := n6_; clear n0_ n1_ n2_ n3_ n4_ n5_ n6_; clear hg hw hp_; have p453 : 0 ≤ (x6_1 : Int) := of_decide_eq_true (by first | (with_reducible assumption) | assumption); have q453 : x6_1 < (t443.length : Int) := of_decide_eq_true (by first | (with_reducible assumption) | assumption); obtain ⟨ad453, A453_0, c453_0, e453, hx453_0, hl453_0, hi453_0⟩ := at_L6 (Kd.S_reads' HO_4.out).2.2 x6_1 p453 q453; obtain rfl : ad446 = ad453 := (by injection e453); obtain ⟨ce453, hce453, hMe453, hcc453⟩ := Kd.S_get HO_4.out [] x6_1 p453 (by first | exact q453 | exact of_decide_eq_true (by first | (with_reducible assumption) | assumption) | (have e_ := (Kd.S_reads' HO_4.out).1; omega)); obtain ⟨ve453_0, rfl, ge453_0⟩ := hMe453; have hv453_0 := hcc453 0 _ rfl; rw [Nat.add_zero, show ((Kd.slice 3 (Kd.int .i64))).sz = 1 from rfl, Nat.mul_one] at hv453_0; replace hv453_0 := Option.some.inj (hv453_0.symm.trans hx453_0); rw [hv453_0] at ge453_0; have HL453_0 := Aside0.mk (show Kd.R (Kd.int .i64) 3 _ _ _ _ (rd_L6 t443 x6_1) from ge453_0); clear hv453_0 ge453_0; clear hcc453 hce453; have HR453_0 := Aside0.mk hi453_0; have HC453_0 := Aside0.mk hl453_0; clear hi453_0 hl453_0; replace p453 := eq_true p453; replace q453 := eq_true q453; have hcz45_0 : w44.cell? ⟨gb437, 0, none⟩ = some (.slice A0_0 l0_0.length c0_0) := (blk_cell BK437.out 0).trans rfl; have hcz45_1 : w44.cell? ⟨gb437, 1, none⟩ = some (.slice A0_1 l0_1.length c0_1) := (blk_cell BK437.out 1).trans rfl; have hcz45_2 : w44.cell? ⟨gb437, 2, none⟩ = some (.slice A0_2 l0_2.length c0_2) := (blk_cell BK437.out 2).trans rfl; have hfz45_0 := blk_frozen BK437.out 0; have hfz45_1 := blk_frozen BK437.out 1; have hfz45_2 := blk_frozen BK437.out 2) | (go_at_call 34; (with_reducible refine (scc_IsLoop.calls k2 _ _ l0_0 _ _ l0_1 _ _ l0_2 (rd (rd_L6 t443 x6_1) x7_2) true _ ?side1 ?side2 ?side3 ?side4 ?side5 ?side6 A40.out).mono ?_); (case side1 => repeat (first | exact (Kd.C_below HR0_0.out HB.out) | (with_reducible refine Kd.C_alloc ?_ _) | (with_reducible refine Kd.C_drewN ?_ _) | (with_reducible refine Kd.C_drew ?_))); (case side2 => exact HC0_0.out); (case side3 => repeat (first | exact (Kd.C_below HR0_1.out HB.out) | (with_reducible refine Kd.C_alloc ?_ _) | (with_reducible refine Kd.C_drewN ?_ _) | (with_reducible refine Kd.C_drew ?_))); (case side4 => exact HC0_1.out); (case side5 => repeat (first | exact (Kd.C_below HR0_2.out HB.out) | (with_reducible refine Kd.C_alloc ?_ _) | (with_reducible refine Kd.C_drewN ?_ _) | (with_reducible refine Kd.C_drew ?_))); (case side6 => exact HC0_2.out); rintro e w46 ⟨rfl, hb⟩; have n0_ := Aside0.mk (Kd.R_below (by (with_reducible repeat (first | apply Kd.R_alloc | apply Kd.R_drewN | apply Kd.R_drew)); exact HO_3.out) hb); have n1_ := Aside0.mk (Kd.S_below (by (with_reducible repeat (first | apply Kd.S_alloc | apply Kd.S_drewN | apply Kd.S_drew)); exact HO_4.out) hb); have n2_ := Aside0.mk (Kd.R_below (by (with_reducible repeat (first | apply Kd.R_alloc | apply Kd.R_drewN | apply Kd.R_drew)); exact HL446_0.out) hb); have n3_ := Aside0.mk (Kd.R_below (by (with_reducible repeat (first | apply Kd.R_alloc | apply Kd.R_drewN | apply Kd.R_drew)); exact HL447_0.out) hb); have n4_ := Aside0.mk (Kd.R_below (by (with_reducible repeat (first | apply Kd.R_alloc | apply Kd.R_drewN | apply Kd.R_drew)); exact HL450_0.out) hb); have n5_ := Aside0.mk (Kd.R_below (by (with_reducible repeat (first | apply Kd.R_alloc | apply Kd.R_drewN | apply Kd.R_drew)); exact HL453_0.out) hb); have n6_ := Aside0.mk (blk_below (g := gb437) (o := .cells #[.slice A0_0 l0_0.length c0_0, .slice A0_1 l0_1.length c0_1, .slice A0_2 l0_2.length c0_2] 48 (0, 0)) (by (with_reducible repeat (first | refine blk_drewN ?_ _ | refine blk_drew ?_ | refine blk_alloc ?_ _)); exact BK437.out) hb); have n7_ := Aside0.mk (Kd.C_below (by repeat (first | (with_reducible exact HR453_0.out) | (with_reducible refine Kd.C_alloc ?_ _) | (with_reducible refine Kd.C_drewN ?_ _) | (with_reducible refine Kd.C_drew ?_) | exact HR453_0.out)) hb); have n8_ := Aside0.mk (below_step (by repeat (first | (with_reducible first | exact HB.out | apply below_alloc | apply pw_below_drewN | apply below_drew1 | refine below_set ?_ GE437.out) | exact HB.out)) hb); clear HO_3; clear HO_4; clear HL446_0; clear HL447_0; clear HL450_0; clear HL453_0; clear BK437; clear HR453_0; clear HB; have HO_3 := n0_; have HO_4 := n1_; have HL446_0 := n2_; have HL447_0 := n3_; have HL450_0 := n4_; have HL453_0 := n5_; have BK437 := n6_; have HR453_0 := n7_; have HB := n8_; clear n0_ n1_ n2_ n3_ n4_ n5_ n6_ n7_ n8_; (try clear hb); (try clear hb2); (try clear hk); (try clear hi)))
                         go_roundg k2
                         case measure => have := HK1.out; have := HK2.out; omega
                         case rel => exact ⟨(y452), (wrap64 (x5_2 + 1)), (wrap64 (x7_2 + 1)), (by first | rfl | (simp; done) | (simp [*]; done)), (by first | rfl | (simp; done) | (simp [*]; done)), H', ⟨by have := HK1.out; have := HK2.out; omega⟩, ⟨by (with_reducible repeat (first | apply Kd.R_alloc | apply Kd.R_drewN | apply Kd.R_drew)); exact HO_3.out⟩, ⟨by (with_reducible repeat (first | apply Kd.S_alloc | apply Kd.S_drewN | apply Kd.S_drew)); exact Kd.S_mono HO_4.out (fun _ hk => hk.2)⟩, ⟨by (with_reducible repeat (first | refine blk_drewN ?_ _ | refine blk_drew ?_ | refine blk_alloc ?_ _)); exact BK437.out⟩, ⟨by repeat (first | (with_reducible first | exact HB.out | apply below_alloc | apply pw_below_drewN | apply below_drew1 | refine below_set ?_ GE437.out) | exact HB.out)⟩⟩
                        ·replace c41 := Bool.eq_false_iff.mpr c41
                         subst c41
                         have H1 : (none) = some r := by rw [if_neg (show ¬ (false = true) by decide)] at H; exact H
                         clear H
                         have H := H1
                         clear H1
                         exact absurd H (by simp)
                       ·rw [if_neg c39] at H
                        have c39b0 : decide (1 < ((rd_L6 t443 x6_1).length : Int)) = false := decide_eq_false c39
                        have c39b1 : decide (1 < (rd_L6 t443 x6_1).length) = false := decide_eq_false (by omega)
                        clear c39
                        have H' := Aside0.mk H
                        clear H
                        have p446 : 0 ≤ (x6_1 : Int) := of_decide_eq_true (by first | (with_reducible assumption) | assumption)
                        have q446 : x6_1 < (t443.length : Int) := of_decide_eq_true (by first | (with_reducible assumption) | assumption)
                        obtain ⟨ad446, A446_0, c446_0, e446, hx446_0, hl446_0, hi446_0⟩ := at_L6 (Kd.S_reads' HO_4.out).2.2 x6_1 p446 q446
                        cases e446
                        obtain ⟨ce446, hce446, hMe446, hcc446⟩ := Kd.S_get HO_4.out [] x6_1 p446 (by first | exact q446 | exact of_decide_eq_true (by first | (with_reducible assumption) | assumption) | (have e_ := (Kd.S_reads' HO_4.out).1; omega))
                        obtain ⟨ve446_0, rfl, ge446_0⟩ := hMe446
                        have hv446_0 := hcc446 0 _ rfl
                        rw [Nat.add_zero, show ((Kd.slice 3 (Kd.int .i64))).sz = 1 from rfl, Nat.mul_one] at hv446_0
                        replace hv446_0 := Option.some.inj (hv446_0.symm.trans hx446_0)
                        rw [hv446_0] at ge446_0
                        have HL446_0 := Aside0.mk (show Kd.R (Kd.int .i64) 3 _ _ _ _ (rd_L6 t443 x6_1) from ge446_0)
                        clear hv446_0 ge446_0
                        clear hcc446 hce446
                        have HR446_0 := Aside0.mk hi446_0
                        have HC446_0 := Aside0.mk hl446_0
                        clear hi446_0 hl446_0
                        replace p446 := eq_true p446
                        replace q446 := eq_true q446
                        have p447 : 0 ≤ (x6_1 : Int) := of_decide_eq_true (by first | (with_reducible assumption) | assumption)
                        have q447 : x6_1 < (t443.length : Int) := of_decide_eq_true (by first | (with_reducible assumption) | assumption)
                        obtain ⟨ad447, A447_0, c447_0, e447, hx447_0, hl447_0, hi447_0⟩ := at_L6 (Kd.S_reads' HO_4.out).2.2 x6_1 p447 q447
                        obtain rfl : ad446 = ad447 := (by injection e447)
                        obtain ⟨ce447, hce447, hMe447, hcc447⟩ := Kd.S_get HO_4.out [] x6_1 p447 (by first | exact q447 | exact of_decide_eq_true (by first | (with_reducible assumption) | assumption) | (have e_ := (Kd.S_reads' HO_4.out).1; omega))
                        obtain ⟨ve447_0, rfl, ge447_0⟩ := hMe447
                        have hv447_0 := hcc447 0 _ rfl
                        rw [Nat.add_zero, show ((Kd.slice 3 (Kd.int .i64))).sz = 1 from rfl, Nat.mul_one] at hv447_0
                        replace hv447_0 := Option.some.inj (hv447_0.symm.trans hx447_0)
                        rw [hv447_0] at ge447_0
                        have HL447_0 := Aside0.mk (show Kd.R (Kd.int .i64) 3 _ _ _ _ (rd_L6 t443 x6_1) from ge447_0)
                        clear hv447_0 ge447_0
                        clear hcc447 hce447
                        have HR447_0 := Aside0.mk hi447_0
                        have HC447_0 := Aside0.mk hl447_0
                        clear hi447_0 hl447_0
                        replace p447 := eq_true p447
                        replace q447 := eq_true q447
                        have ea_ := Option.some.inj (hx446_0.symm.trans hx447_0)
                        injection ea_ with ea_ en_ ec_
                        subst ea_
                        subst ec_
                        clear en_
                        have p448 : 0 ≤ (x7_2 : Int) := of_decide_eq_true (by first | (with_reducible assumption) | assumption)
                        have q448 : x7_2 < ((rd_L6 t443 x6_1).length : Int) := of_decide_eq_true (by first | (with_reducible assumption) | assumption)
                        obtain ⟨ad448, e448, hx448_0⟩ := Kd.at_int (by repeat (first | (with_reducible exact HR447_0.out) | (with_reducible refine Kd.C_alloc ?_ _) | (with_reducible refine Kd.C_drewN ?_ _) | (with_reducible refine Kd.C_drew ?_) | exact HR447_0.out)) x7_2 p448 q448
                        cases e448
                        replace p448 := eq_true p448
                        replace q448 := eq_true q448
                        obtain ⟨Ao47, co47, eo47⟩ := Kd.R_slice HO_3.out
                        subst eo47
                        have p449 : 0 ≤ ((rd (rd_L6 t443 x6_1) x7_2) : Int) := of_decide_eq_true (by first | (with_reducible assumption) | assumption)
                        have q449 : (rd (rd_L6 t443 x6_1) x7_2) < (x3_2.length : Int) := of_decide_eq_true (by first | (with_reducible assumption) | assumption)
                        obtain ⟨ad449, e449, hx449_0⟩ := Kd.at_int (Kd.R_reads' HO_3.out).2.2 (rd (rd_L6 t443 x6_1) x7_2) p449 q449
                        cases e449
                        replace p449 := eq_true p449
                        replace q449 := eq_true q449
                        have p450 : 0 ≤ (x6_1 : Int) := of_decide_eq_true (by first | (with_reducible assumption) | assumption)
                        have q450 : x6_1 < (t443.length : Int) := of_decide_eq_true (by first | (with_reducible assumption) | assumption)
                        obtain ⟨ad450, A450_0, c450_0, e450, hx450_0, hl450_0, hi450_0⟩ := at_L6 (Kd.S_reads' HO_4.out).2.2 x6_1 p450 q450
                        obtain rfl : ad446 = ad450 := (by injection e450)
                        obtain ⟨ce450, hce450, hMe450, hcc450⟩ := Kd.S_get HO_4.out [] x6_1 p450 (by first | exact q450 | exact of_decide_eq_true (by first | (with_reducible assumption) | assumption) | (have e_ := (Kd.S_reads' HO_4.out).1; omega))
                        obtain ⟨ve450_0, rfl, ge450_0⟩ := hMe450
                        have hv450_0 := hcc450 0 _ rfl
                        rw [Nat.add_zero, show ((Kd.slice 3 (Kd.int .i64))).sz = 1 from rfl, Nat.mul_one] at hv450_0
                        replace hv450_0 := Option.some.inj (hv450_0.symm.trans hx450_0)
                        rw [hv450_0] at ge450_0
                        have HL450_0 := Aside0.mk (show Kd.R (Kd.int .i64) 3 _ _ _ _ (rd_L6 t443 x6_1) from ge450_0)
                        clear hv450_0 ge450_0
                        clear hcc450 hce450
                        have HR450_0 := Aside0.mk hi450_0
                        have HC450_0 := Aside0.mk hl450_0
                        clear hi450_0 hl450_0
                        replace p450 := eq_true p450
                        replace q450 := eq_true q450
                        have ea_ := Option.some.inj (hx446_0.symm.trans hx450_0)
                        injection ea_ with ea_ en_ ec_
                        subst ea_
                        subst ec_
                        clear en_
                        have p451 : 0 ≤ ((ji34) : Int) := of_decide_eq_true (by first | (with_reducible assumption) | assumption)
                        have q451 : (ji34) < ((rd_L6 t443 x6_1).length : Int) := of_decide_eq_true (by first | (with_reducible assumption) | assumption)
                        obtain ⟨ad451, e451, hx451_0⟩ := Kd.at_int (by repeat (first | (with_reducible exact HR450_0.out) | (with_reducible refine Kd.C_alloc ?_ _) | (with_reducible refine Kd.C_drewN ?_ _) | (with_reducible refine Kd.C_drew ?_) | exact HR450_0.out)) (ji34) p451 q451
                        cases e451
                        replace p451 := eq_true p451
                        replace q451 := eq_true q451
                        have p38 : 0 ≤ ((rd (rd_L6 t443 x6_1) x7_2) : Int) := of_decide_eq_true (by first | (with_reducible assumption) | assumption)
                        have q38 : ((rd (rd_L6 t443 x6_1) x7_2) : Int) < ((x3_2.length : Int) : Int) := of_decide_eq_true (by first | (with_reducible assumption) | assumption)
                        obtain ⟨go38, co38, eo38, gb38, gl38, cl38, HG38⟩ := Kd.R_form HO_3.out (by omega)
                        (first | cases eo38 | (injection eo38 with ea_ en_ ec_; (first | subst ea_ | (injection ea_ with ea_; subst ea_)); subst ec_; clear en_))
                        have GB38 := Aside0.mk gb38
                        have GG38 := Aside0.mk HG38
                        clear gb38 gl38 HG38
                        (first | simp only [add_plain] at hx449_0 | skip)
                        obtain ⟨hx38_0, hf38_0⟩ := Kd.R_celln 0 HO_3.out ((rd (rd_L6 t443 x6_1) x7_2) : Int) p38 q38
                        replace p38 := eq_true p38
                        replace q38 := eq_true q38
                        have HP48 := Kd.R_putg HO_3.out ((rd (rd_L6 t443 x6_1) x7_2) : Int) (wrap64 (x6_1 + 1))
                        go_wp2_with (first | ((with_reducible refine gate_store (t := 3) (p := 83) rfl ?_); refine store_event (t := 3) (p := 83) (v := ?vo_w49) (w1 := (wr.setCell ⟨go38, ((rd (rd_L6 t443 x6_1) x7_2) : Int).toNat, none⟩ (.int .i64 (wrap64 (x6_1 + 1))))) ?hg ?ho ?hn ?hr ?_; (case ho => rfl); (case hg => rfl); (case hn => rfl); (case hr => first | (go_simp; done) | (go_simp; rfl)); intro w49 hw; have hg : wr.grownBy w49 (some go38) := (by rw [hw]; exact HP48.2); have hp_ : Kd.R (Kd.int .i64) 3 w49 w.heap.size (fun _ => True) (.slice (some ⟨go38, 0, none⟩) x3_2.length co47) y452 := (by rw [hw, Ny452.out]; exact HP48.1); clear HP48; have n0_ := Aside0.mk (hp_); have n1_ := Aside0.mk (Kd.S_after (v := (.slice (some ⟨go38, 0, none⟩) x3_2.length co47)) (v1 := (.slice (some ⟨go38, 0, none⟩) x3_2.length co47)) (ok := (fun _ => True)) (by (with_reducible repeat (first | apply Kd.S_alloc | apply Kd.S_drewN | apply Kd.S_drew)); exact Kd.S_mono HO_4.out (fun _ hk => ⟨trivial, hk⟩)) hg (.inl rfl)); have n2_ := Aside0.mk (blk_grown (g := gb437) (o := .cells #[.slice A0_0 l0_0.length c0_0, .slice A0_1 l0_1.length c0_1, .slice A0_2 l0_2.length c0_2] 48 (0, 0)) (by (with_reducible repeat (first | refine blk_drewN ?_ _ | refine blk_drew ?_ | refine blk_alloc ?_ _)); exact BK437.out) hg (Kd.R_ne HO_3.out BK437.out (by decide))); have n3_ := Aside0.mk (Kd.R_after (v := (.slice (some ⟨go38, 0, none⟩) x3_2.length co47)) (v1 := (.slice (some ⟨go38, 0, none⟩) x3_2.length co47)) (ok := (fun k_ => some k_ ≠ (.slice (some ad446) t443.length co23 : Value).ownBlock)) (by (with_reducible repeat (first | apply Kd.R_alloc | apply Kd.R_drewN | apply Kd.R_drew)); exact Kd.R_mono HL446_0.out (fun _ hk => ⟨hk.2, hk.1⟩)) hg (.inl rfl)); have n4_ := Aside0.mk (Kd.R_after (v := (.slice (some ⟨go38, 0, none⟩) x3_2.length co47)) (v1 := (.slice (some ⟨go38, 0, none⟩) x3_2.length co47)) (ok := (fun k_ => some k_ ≠ (.slice (some ad446) t443.length co23 : Value).ownBlock)) (by (with_reducible repeat (first | apply Kd.R_alloc | apply Kd.R_drewN | apply Kd.R_drew)); exact Kd.R_mono HL447_0.out (fun _ hk => ⟨hk.2, hk.1⟩)) hg (.inl rfl)); have n5_ := Aside0.mk (Kd.R_after (v := (.slice (some ⟨go38, 0, none⟩) x3_2.length co47)) (v1 := (.slice (some ⟨go38, 0, none⟩) x3_2.length co47)) (ok := (fun k_ => some k_ ≠ (.slice (some ad446) t443.length co23 : Value).ownBlock)) (by (with_reducible repeat (first | apply Kd.R_alloc | apply Kd.R_drewN | apply Kd.R_drew)); exact Kd.R_mono HL450_0.out (fun _ hk => ⟨hk.2, hk.1⟩)) hg (.inl rfl)); have n6_ := Aside0.mk ((by rw [hw]; exact below_set (HB.out) GB38.out : Below w.heap.size w w49)); clear HO_3; clear HO_4; clear BK437; clear HL446_0; clear HL447_0; clear HL450_0; clear HB; have HO_3 := n0_; have HO_4 := n1_; have BK437 := n2_; have HL446_0 := n3_; have HL447_0 := n4_; have HL450_0 := n5_; have HB := n6_; clear n0_ n1_ n2_ n3_ n4_ n5_ n6_; clear hg hw hp_; have p453 : 0 ≤ (x6_1 : Int) := of_decide_eq_true (by first | (with_reducible assumption) | assumption); have q453 : x6_1 < (t443.length : Int) := of_decide_eq_true (by first | (with_reducible assumption) | assumption); obtain ⟨ad453, A453_0, c453_0, e453, hx453_0, hl453_0, hi453_0⟩ := at_L6 (Kd.S_reads' HO_4.out).2.2 x6_1 p453 q453; obtain rfl : ad446 = ad453 := (by injection e453); obtain ⟨ce453, hce453, hMe453, hcc453⟩ := Kd.S_get HO_4.out [] x6_1 p453 (by first | exact q453 | exact of_decide_eq_true (by first | (with_reducible assumption) | assumption) | (have e_ := (Kd.S_reads' HO_4.out).1; omega)); obtain ⟨ve453_0, rfl, ge453_0⟩ := hMe453; have hv453_0 := hcc453 0 _ rfl; rw [Nat.add_zero, show ((Kd.slice 3 (Kd.int .i64))).sz = 1 from rfl, Nat.mul_one] at hv453_0; replace hv453_0 := Option.some.inj (hv453_0.symm.trans hx453_0); rw [hv453_0] at ge453_0; have HL453_0 := Aside0.mk (show Kd.R (Kd.int .i64) 3 _ _ _ _ (rd_L6 t443 x6_1) from ge453_0); clear hv453_0 ge453_0; clear hcc453 hce453; have HR453_0 := Aside0.mk hi453_0; have HC453_0 := Aside0.mk hl453_0; clear hi453_0 hl453_0; replace p453 := eq_true p453; replace q453 := eq_true q453))
                        go_roundg k2
                        case measure => have := HK1.out; have := HK2.out; omega
                        case rel => exact ⟨(y452), (wrap64 (x5_2 + 1)), (wrap64 (x7_2 + 1)), (by first | rfl | (simp; done) | (simp [*]; done)), (by first | rfl | (simp; done) | (simp [*]; done)), H', ⟨by have := HK1.out; have := HK2.out; omega⟩, ⟨by (with_reducible repeat (first | apply Kd.R_alloc | apply Kd.R_drewN | apply Kd.R_drew)); exact HO_3.out⟩, ⟨by (with_reducible repeat (first | apply Kd.S_alloc | apply Kd.S_drewN | apply Kd.S_drew)); exact Kd.S_mono HO_4.out (fun _ hk => hk.2)⟩, ⟨by (with_reducible repeat (first | refine blk_drewN ?_ _ | refine blk_drew ?_ | refine blk_alloc ?_ _)); exact BK437.out⟩, ⟨by repeat (first | (with_reducible first | exact HB.out | apply below_alloc | apply pw_below_drewN | apply below_drew1 | refine below_set ?_ GE437.out) | exact HB.out)⟩⟩
                     ·rw [if_neg c36] at H
                      exact absurd H (by simp)
                    ·rw [if_neg c35] at H
                     exact absurd H (by simp)
                   ·rw [if_neg c33] at H
                    have c33b0 : decide (0 < x7_2) = false := decide_eq_false c33
                    clear c33
                    obtain ⟨y455, hy455⟩ : ∃ y_ : List Int, y_ = (x3_2.set ((rd (rd_L6 t443 x6_1) x7_2) : Int).toNat (wrap64 (x6_1 + 1))) := ⟨_, rfl⟩
                    replace H : (if ((rd_L6 t443 x6_1).length : Int) > 1 then ((scc_IsLoop.f k2 l0_0 l0_1 l0_2 (rd (rd_L6 t443 x6_1) x7_2)).bind fun t457 => (if t457 = true then (truantlaw20_SccOrder.l1 k2 y455 t443 (wrap64 (x5_2 + 1)) x6_1 (wrap64 (x7_2 + 1)) l0_0 l0_1 l0_2) else (none))) else (truantlaw20_SccOrder.l1 k2 y455 t443 (wrap64 (x5_2 + 1)) x6_1 (wrap64 (x7_2 + 1)) l0_0 l0_1 l0_2)) = some r := by first | (rw [hy455]; with_reducible exact H) | (have H2_ := (Option.bind_some _ _).symm.trans H; rw [hy455]; with_reducible exact H2_) | (have H2_ := (Option.bind_some _ _).symm.trans H; with_reducible exact H2_) | with_reducible exact H | (rw [hy455]; exact H) | exact H
                    have Ny455 := Aside0.mk hy455
                    clear hy455
                    by_cases c51 : ((rd_L6 t443 x6_1).length : Int) > 1
                    ·rw [if_pos c51] at H
                     have c51b0 : decide (1 < ((rd_L6 t443 x6_1).length : Int)) = true := decide_eq_true c51
                     have c51b1 : decide (1 < (rd_L6 t443 x6_1).length) = true := decide_eq_true (by omega)
                     clear c51
                     replace H := Option.bind_eq_some_iff.mp H
                     obtain ⟨t457, A520, H⟩ := H
                     replace H : (if t457 = true then (truantlaw20_SccOrder.l1 k2 y455 t443 (wrap64 (x5_2 + 1)) x6_1 (wrap64 (x7_2 + 1)) l0_0 l0_1 l0_2) else (none)) = some r := H
                     have A52 := Aside0.mk A520
                     clear A520
                     by_cases c53 : t457 = true
                     ·subst c53
                      have H1 : (truantlaw20_SccOrder.l1 k2 y455 t443 (wrap64 (x5_2 + 1)) x6_1 (wrap64 (x7_2 + 1)) l0_0 l0_1 l0_2) = some r := by rw [if_pos rfl] at H; exact H
                      clear H
                      have H := H1
                      clear H1
                      have H' := Aside0.mk H
                      clear H
                      have p446 : 0 ≤ (x6_1 : Int) := of_decide_eq_true (by first | (with_reducible assumption) | assumption)
                      have q446 : x6_1 < (t443.length : Int) := of_decide_eq_true (by first | (with_reducible assumption) | assumption)
                      obtain ⟨ad446, A446_0, c446_0, e446, hx446_0, hl446_0, hi446_0⟩ := at_L6 (Kd.S_reads' HO_4.out).2.2 x6_1 p446 q446
                      cases e446
                      obtain ⟨ce446, hce446, hMe446, hcc446⟩ := Kd.S_get HO_4.out [] x6_1 p446 (by first | exact q446 | exact of_decide_eq_true (by first | (with_reducible assumption) | assumption) | (have e_ := (Kd.S_reads' HO_4.out).1; omega))
                      obtain ⟨ve446_0, rfl, ge446_0⟩ := hMe446
                      have hv446_0 := hcc446 0 _ rfl
                      rw [Nat.add_zero, show ((Kd.slice 3 (Kd.int .i64))).sz = 1 from rfl, Nat.mul_one] at hv446_0
                      replace hv446_0 := Option.some.inj (hv446_0.symm.trans hx446_0)
                      rw [hv446_0] at ge446_0
                      have HL446_0 := Aside0.mk (show Kd.R (Kd.int .i64) 3 _ _ _ _ (rd_L6 t443 x6_1) from ge446_0)
                      clear hv446_0 ge446_0
                      clear hcc446 hce446
                      have HR446_0 := Aside0.mk hi446_0
                      have HC446_0 := Aside0.mk hl446_0
                      clear hi446_0 hl446_0
                      replace p446 := eq_true p446
                      replace q446 := eq_true q446
                      have p447 : 0 ≤ (x6_1 : Int) := of_decide_eq_true (by first | (with_reducible assumption) | assumption)
                      have q447 : x6_1 < (t443.length : Int) := of_decide_eq_true (by first | (with_reducible assumption) | assumption)
                      obtain ⟨ad447, A447_0, c447_0, e447, hx447_0, hl447_0, hi447_0⟩ := at_L6 (Kd.S_reads' HO_4.out).2.2 x6_1 p447 q447
                      obtain rfl : ad446 = ad447 := (by injection e447)
                      obtain ⟨ce447, hce447, hMe447, hcc447⟩ := Kd.S_get HO_4.out [] x6_1 p447 (by first | exact q447 | exact of_decide_eq_true (by first | (with_reducible assumption) | assumption) | (have e_ := (Kd.S_reads' HO_4.out).1; omega))
                      obtain ⟨ve447_0, rfl, ge447_0⟩ := hMe447
                      have hv447_0 := hcc447 0 _ rfl
                      rw [Nat.add_zero, show ((Kd.slice 3 (Kd.int .i64))).sz = 1 from rfl, Nat.mul_one] at hv447_0
                      replace hv447_0 := Option.some.inj (hv447_0.symm.trans hx447_0)
                      rw [hv447_0] at ge447_0
                      have HL447_0 := Aside0.mk (show Kd.R (Kd.int .i64) 3 _ _ _ _ (rd_L6 t443 x6_1) from ge447_0)
                      clear hv447_0 ge447_0
                      clear hcc447 hce447
                      have HR447_0 := Aside0.mk hi447_0
                      have HC447_0 := Aside0.mk hl447_0
                      clear hi447_0 hl447_0
                      replace p447 := eq_true p447
                      replace q447 := eq_true q447
                      have ea_ := Option.some.inj (hx446_0.symm.trans hx447_0)
                      injection ea_ with ea_ en_ ec_
                      subst ea_
                      subst ec_
                      clear en_
                      have p448 : 0 ≤ (x7_2 : Int) := of_decide_eq_true (by first | (with_reducible assumption) | assumption)
                      have q448 : x7_2 < ((rd_L6 t443 x6_1).length : Int) := of_decide_eq_true (by first | (with_reducible assumption) | assumption)
                      obtain ⟨ad448, e448, hx448_0⟩ := Kd.at_int (by repeat (first | (with_reducible exact HR447_0.out) | (with_reducible refine Kd.C_alloc ?_ _) | (with_reducible refine Kd.C_drewN ?_ _) | (with_reducible refine Kd.C_drew ?_) | exact HR447_0.out)) x7_2 p448 q448
                      cases e448
                      replace p448 := eq_true p448
                      replace q448 := eq_true q448
                      obtain ⟨Ao54, co54, eo54⟩ := Kd.R_slice HO_3.out
                      subst eo54
                      have p449 : 0 ≤ ((rd (rd_L6 t443 x6_1) x7_2) : Int) := of_decide_eq_true (by first | (with_reducible assumption) | assumption)
                      have q449 : (rd (rd_L6 t443 x6_1) x7_2) < (x3_2.length : Int) := of_decide_eq_true (by first | (with_reducible assumption) | assumption)
                      obtain ⟨ad449, e449, hx449_0⟩ := Kd.at_int (Kd.R_reads' HO_3.out).2.2 (rd (rd_L6 t443 x6_1) x7_2) p449 q449
                      cases e449
                      replace p449 := eq_true p449
                      replace q449 := eq_true q449
                      have p50 : 0 ≤ ((rd (rd_L6 t443 x6_1) x7_2) : Int) := of_decide_eq_true (by first | (with_reducible assumption) | assumption)
                      have q50 : ((rd (rd_L6 t443 x6_1) x7_2) : Int) < ((x3_2.length : Int) : Int) := of_decide_eq_true (by first | (with_reducible assumption) | assumption)
                      obtain ⟨go50, co50, eo50, gb50, gl50, cl50, HG50⟩ := Kd.R_form HO_3.out (by omega)
                      (first | cases eo50 | (injection eo50 with ea_ en_ ec_; (first | subst ea_ | (injection ea_ with ea_; subst ea_)); subst ec_; clear en_))
                      have GB50 := Aside0.mk gb50
                      have GG50 := Aside0.mk HG50
                      clear gb50 gl50 HG50
                      (first | simp only [add_plain] at hx449_0 | skip)
                      obtain ⟨hx50_0, hf50_0⟩ := Kd.R_celln 0 HO_3.out ((rd (rd_L6 t443 x6_1) x7_2) : Int) p50 q50
                      replace p50 := eq_true p50
                      replace q50 := eq_true q50
                      have HP55 := Kd.R_putg HO_3.out ((rd (rd_L6 t443 x6_1) x7_2) : Int) (wrap64 (x6_1 + 1))
                      go_wp2_with (first | ((with_reducible refine gate_store (t := 3) (p := 83) rfl ?_); refine store_event (t := 3) (p := 83) (v := ?vo_w56) (w1 := (wr.setCell ⟨go50, ((rd (rd_L6 t443 x6_1) x7_2) : Int).toNat, none⟩ (.int .i64 (wrap64 (x6_1 + 1))))) ?hg ?ho ?hn ?hr ?_; (case ho => rfl); (case hg => rfl); (case hn => rfl); (case hr => first | (go_simp; done) | (go_simp; rfl)); intro w56 hw; have hg : wr.grownBy w56 (some go50) := (by rw [hw]; exact HP55.2); have hp_ : Kd.R (Kd.int .i64) 3 w56 w.heap.size (fun _ => True) (.slice (some ⟨go50, 0, none⟩) x3_2.length co54) y455 := (by rw [hw, Ny455.out]; exact HP55.1); clear HP55; have n0_ := Aside0.mk (hp_); have n1_ := Aside0.mk (Kd.S_after (v := (.slice (some ⟨go50, 0, none⟩) x3_2.length co54)) (v1 := (.slice (some ⟨go50, 0, none⟩) x3_2.length co54)) (ok := (fun _ => True)) (by (with_reducible repeat (first | apply Kd.S_alloc | apply Kd.S_drewN | apply Kd.S_drew)); exact Kd.S_mono HO_4.out (fun _ hk => ⟨trivial, hk⟩)) hg (.inl rfl)); have n2_ := Aside0.mk (blk_grown (g := gb437) (o := .cells #[.slice A0_0 l0_0.length c0_0, .slice A0_1 l0_1.length c0_1, .slice A0_2 l0_2.length c0_2] 48 (0, 0)) (by (with_reducible repeat (first | refine blk_drewN ?_ _ | refine blk_drew ?_ | refine blk_alloc ?_ _)); exact BK437.out) hg (Kd.R_ne HO_3.out BK437.out (by decide))); have n3_ := Aside0.mk (Kd.R_after (v := (.slice (some ⟨go50, 0, none⟩) x3_2.length co54)) (v1 := (.slice (some ⟨go50, 0, none⟩) x3_2.length co54)) (ok := (fun k_ => some k_ ≠ (.slice (some ad446) t443.length co23 : Value).ownBlock)) (by (with_reducible repeat (first | apply Kd.R_alloc | apply Kd.R_drewN | apply Kd.R_drew)); exact Kd.R_mono HL446_0.out (fun _ hk => ⟨hk.2, hk.1⟩)) hg (.inl rfl)); have n4_ := Aside0.mk (Kd.R_after (v := (.slice (some ⟨go50, 0, none⟩) x3_2.length co54)) (v1 := (.slice (some ⟨go50, 0, none⟩) x3_2.length co54)) (ok := (fun k_ => some k_ ≠ (.slice (some ad446) t443.length co23 : Value).ownBlock)) (by (with_reducible repeat (first | apply Kd.R_alloc | apply Kd.R_drewN | apply Kd.R_drew)); exact Kd.R_mono HL447_0.out (fun _ hk => ⟨hk.2, hk.1⟩)) hg (.inl rfl)); have n5_ := Aside0.mk ((by rw [hw]; exact below_set (HB.out) GB50.out : Below w.heap.size w w56)); clear HO_3; clear HO_4; clear BK437; clear HL446_0; clear HL447_0; clear HB; have HO_3 := n0_; have HO_4 := n1_; have BK437 := n2_; have HL446_0 := n3_; have HL447_0 := n4_; have HB := n5_; clear n0_ n1_ n2_ n3_ n4_ n5_; clear hg hw hp_; have p456 : 0 ≤ (x6_1 : Int) := of_decide_eq_true (by first | (with_reducible assumption) | assumption); have q456 : x6_1 < (t443.length : Int) := of_decide_eq_true (by first | (with_reducible assumption) | assumption); obtain ⟨ad456, A456_0, c456_0, e456, hx456_0, hl456_0, hi456_0⟩ := at_L6 (Kd.S_reads' HO_4.out).2.2 x6_1 p456 q456; obtain rfl : ad446 = ad456 := (by injection e456); obtain ⟨ce456, hce456, hMe456, hcc456⟩ := Kd.S_get HO_4.out [] x6_1 p456 (by first | exact q456 | exact of_decide_eq_true (by first | (with_reducible assumption) | assumption) | (have e_ := (Kd.S_reads' HO_4.out).1; omega)); obtain ⟨ve456_0, rfl, ge456_0⟩ := hMe456; have hv456_0 := hcc456 0 _ rfl; rw [Nat.add_zero, show ((Kd.slice 3 (Kd.int .i64))).sz = 1 from rfl, Nat.mul_one] at hv456_0; replace hv456_0 := Option.some.inj (hv456_0.symm.trans hx456_0); rw [hv456_0] at ge456_0; have HL456_0 := Aside0.mk (show Kd.R (Kd.int .i64) 3 _ _ _ _ (rd_L6 t443 x6_1) from ge456_0); clear hv456_0 ge456_0; clear hcc456 hce456; have HR456_0 := Aside0.mk hi456_0; have HC456_0 := Aside0.mk hl456_0; clear hi456_0 hl456_0; replace p456 := eq_true p456; replace q456 := eq_true q456; have hcz57_0 : w56.cell? ⟨gb437, 0, none⟩ = some (.slice A0_0 l0_0.length c0_0) := (blk_cell BK437.out 0).trans rfl; have hcz57_1 : w56.cell? ⟨gb437, 1, none⟩ = some (.slice A0_1 l0_1.length c0_1) := (blk_cell BK437.out 1).trans rfl; have hcz57_2 : w56.cell? ⟨gb437, 2, none⟩ = some (.slice A0_2 l0_2.length c0_2) := (blk_cell BK437.out 2).trans rfl; have hfz57_0 := blk_frozen BK437.out 0; have hfz57_1 := blk_frozen BK437.out 1; have hfz57_2 := blk_frozen BK437.out 2) | (go_at_call 34; (with_reducible refine (scc_IsLoop.calls k2 _ _ l0_0 _ _ l0_1 _ _ l0_2 (rd (rd_L6 t443 x6_1) x7_2) true _ ?side1 ?side2 ?side3 ?side4 ?side5 ?side6 A52.out).mono ?_); (case side1 => repeat (first | exact (Kd.C_below HR0_0.out HB.out) | (with_reducible refine Kd.C_alloc ?_ _) | (with_reducible refine Kd.C_drewN ?_ _) | (with_reducible refine Kd.C_drew ?_))); (case side2 => exact HC0_0.out); (case side3 => repeat (first | exact (Kd.C_below HR0_1.out HB.out) | (with_reducible refine Kd.C_alloc ?_ _) | (with_reducible refine Kd.C_drewN ?_ _) | (with_reducible refine Kd.C_drew ?_))); (case side4 => exact HC0_1.out); (case side5 => repeat (first | exact (Kd.C_below HR0_2.out HB.out) | (with_reducible refine Kd.C_alloc ?_ _) | (with_reducible refine Kd.C_drewN ?_ _) | (with_reducible refine Kd.C_drew ?_))); (case side6 => exact HC0_2.out); rintro e w58 ⟨rfl, hb⟩; have n0_ := Aside0.mk (Kd.R_below (by (with_reducible repeat (first | apply Kd.R_alloc | apply Kd.R_drewN | apply Kd.R_drew)); exact HO_3.out) hb); have n1_ := Aside0.mk (Kd.S_below (by (with_reducible repeat (first | apply Kd.S_alloc | apply Kd.S_drewN | apply Kd.S_drew)); exact HO_4.out) hb); have n2_ := Aside0.mk (Kd.R_below (by (with_reducible repeat (first | apply Kd.R_alloc | apply Kd.R_drewN | apply Kd.R_drew)); exact HL446_0.out) hb); have n3_ := Aside0.mk (Kd.R_below (by (with_reducible repeat (first | apply Kd.R_alloc | apply Kd.R_drewN | apply Kd.R_drew)); exact HL447_0.out) hb); have n4_ := Aside0.mk (Kd.R_below (by (with_reducible repeat (first | apply Kd.R_alloc | apply Kd.R_drewN | apply Kd.R_drew)); exact HL456_0.out) hb); have n5_ := Aside0.mk (blk_below (g := gb437) (o := .cells #[.slice A0_0 l0_0.length c0_0, .slice A0_1 l0_1.length c0_1, .slice A0_2 l0_2.length c0_2] 48 (0, 0)) (by (with_reducible repeat (first | refine blk_drewN ?_ _ | refine blk_drew ?_ | refine blk_alloc ?_ _)); exact BK437.out) hb); have n6_ := Aside0.mk (Kd.C_below (by repeat (first | (with_reducible exact HR456_0.out) | (with_reducible refine Kd.C_alloc ?_ _) | (with_reducible refine Kd.C_drewN ?_ _) | (with_reducible refine Kd.C_drew ?_) | exact HR456_0.out)) hb); have n7_ := Aside0.mk (below_step (by repeat (first | (with_reducible first | exact HB.out | apply below_alloc | apply pw_below_drewN | apply below_drew1 | refine below_set ?_ GE437.out) | exact HB.out)) hb); clear HO_3; clear HO_4; clear HL446_0; clear HL447_0; clear HL456_0; clear BK437; clear HR456_0; clear HB; have HO_3 := n0_; have HO_4 := n1_; have HL446_0 := n2_; have HL447_0 := n3_; have HL456_0 := n4_; have BK437 := n5_; have HR456_0 := n6_; have HB := n7_; clear n0_ n1_ n2_ n3_ n4_ n5_ n6_ n7_; (try clear hb); (try clear hb2); (try clear hk); (try clear hi)))
                      go_roundg k2
                      case measure => have := HK1.out; have := HK2.out; omega
                      case rel => exact ⟨(y455), (wrap64 (x5_2 + 1)), (wrap64 (x7_2 + 1)), (by first | rfl | (simp; done) | (simp [*]; done)), (by first | rfl | (simp; done) | (simp [*]; done)), H', ⟨by have := HK1.out; have := HK2.out; omega⟩, ⟨by (with_reducible repeat (first | apply Kd.R_alloc | apply Kd.R_drewN | apply Kd.R_drew)); exact HO_3.out⟩, ⟨by (with_reducible repeat (first | apply Kd.S_alloc | apply Kd.S_drewN | apply Kd.S_drew)); exact Kd.S_mono HO_4.out (fun _ hk => hk.2)⟩, ⟨by (with_reducible repeat (first | refine blk_drewN ?_ _ | refine blk_drew ?_ | refine blk_alloc ?_ _)); exact BK437.out⟩, ⟨by repeat (first | (with_reducible first | exact HB.out | apply below_alloc | apply pw_below_drewN | apply below_drew1 | refine below_set ?_ GE437.out) | exact HB.out)⟩⟩
                     ·replace c53 := Bool.eq_false_iff.mpr c53
                      subst c53
                      have H1 : (none) = some r := by rw [if_neg (show ¬ (false = true) by decide)] at H; exact H
                      clear H
                      have H := H1
                      clear H1
                      exact absurd H (by simp)
                    ·rw [if_neg c51] at H
                     have c51b0 : decide (1 < ((rd_L6 t443 x6_1).length : Int)) = false := decide_eq_false c51
                     have c51b1 : decide (1 < (rd_L6 t443 x6_1).length) = false := decide_eq_false (by omega)
                     clear c51
                     have H' := Aside0.mk H
                     clear H
                     have p446 : 0 ≤ (x6_1 : Int) := of_decide_eq_true (by first | (with_reducible assumption) | assumption)
                     have q446 : x6_1 < (t443.length : Int) := of_decide_eq_true (by first | (with_reducible assumption) | assumption)
                     obtain ⟨ad446, A446_0, c446_0, e446, hx446_0, hl446_0, hi446_0⟩ := at_L6 (Kd.S_reads' HO_4.out).2.2 x6_1 p446 q446
                     cases e446
                     obtain ⟨ce446, hce446, hMe446, hcc446⟩ := Kd.S_get HO_4.out [] x6_1 p446 (by first | exact q446 | exact of_decide_eq_true (by first | (with_reducible assumption) | assumption) | (have e_ := (Kd.S_reads' HO_4.out).1; omega))
                     obtain ⟨ve446_0, rfl, ge446_0⟩ := hMe446
                     have hv446_0 := hcc446 0 _ rfl
                     rw [Nat.add_zero, show ((Kd.slice 3 (Kd.int .i64))).sz = 1 from rfl, Nat.mul_one] at hv446_0
                     replace hv446_0 := Option.some.inj (hv446_0.symm.trans hx446_0)
                     rw [hv446_0] at ge446_0
                     have HL446_0 := Aside0.mk (show Kd.R (Kd.int .i64) 3 _ _ _ _ (rd_L6 t443 x6_1) from ge446_0)
                     clear hv446_0 ge446_0
                     clear hcc446 hce446
                     have HR446_0 := Aside0.mk hi446_0
                     have HC446_0 := Aside0.mk hl446_0
                     clear hi446_0 hl446_0
                     replace p446 := eq_true p446
                     replace q446 := eq_true q446
                     have p447 : 0 ≤ (x6_1 : Int) := of_decide_eq_true (by first | (with_reducible assumption) | assumption)
                     have q447 : x6_1 < (t443.length : Int) := of_decide_eq_true (by first | (with_reducible assumption) | assumption)
                     obtain ⟨ad447, A447_0, c447_0, e447, hx447_0, hl447_0, hi447_0⟩ := at_L6 (Kd.S_reads' HO_4.out).2.2 x6_1 p447 q447
                     obtain rfl : ad446 = ad447 := (by injection e447)
                     obtain ⟨ce447, hce447, hMe447, hcc447⟩ := Kd.S_get HO_4.out [] x6_1 p447 (by first | exact q447 | exact of_decide_eq_true (by first | (with_reducible assumption) | assumption) | (have e_ := (Kd.S_reads' HO_4.out).1; omega))
                     obtain ⟨ve447_0, rfl, ge447_0⟩ := hMe447
                     have hv447_0 := hcc447 0 _ rfl
                     rw [Nat.add_zero, show ((Kd.slice 3 (Kd.int .i64))).sz = 1 from rfl, Nat.mul_one] at hv447_0
                     replace hv447_0 := Option.some.inj (hv447_0.symm.trans hx447_0)
                     rw [hv447_0] at ge447_0
                     have HL447_0 := Aside0.mk (show Kd.R (Kd.int .i64) 3 _ _ _ _ (rd_L6 t443 x6_1) from ge447_0)
                     clear hv447_0 ge447_0
                     clear hcc447 hce447
                     have HR447_0 := Aside0.mk hi447_0
                     have HC447_0 := Aside0.mk hl447_0
                     clear hi447_0 hl447_0
                     replace p447 := eq_true p447
                     replace q447 := eq_true q447
                     have ea_ := Option.some.inj (hx446_0.symm.trans hx447_0)
                     injection ea_ with ea_ en_ ec_
                     subst ea_
                     subst ec_
                     clear en_
                     have p448 : 0 ≤ (x7_2 : Int) := of_decide_eq_true (by first | (with_reducible assumption) | assumption)
                     have q448 : x7_2 < ((rd_L6 t443 x6_1).length : Int) := of_decide_eq_true (by first | (with_reducible assumption) | assumption)
                     obtain ⟨ad448, e448, hx448_0⟩ := Kd.at_int (by repeat (first | (with_reducible exact HR447_0.out) | (with_reducible refine Kd.C_alloc ?_ _) | (with_reducible refine Kd.C_drewN ?_ _) | (with_reducible refine Kd.C_drew ?_) | exact HR447_0.out)) x7_2 p448 q448
                     cases e448
                     replace p448 := eq_true p448
                     replace q448 := eq_true q448
                     obtain ⟨Ao59, co59, eo59⟩ := Kd.R_slice HO_3.out
                     subst eo59
                     have p449 : 0 ≤ ((rd (rd_L6 t443 x6_1) x7_2) : Int) := of_decide_eq_true (by first | (with_reducible assumption) | assumption)
                     have q449 : (rd (rd_L6 t443 x6_1) x7_2) < (x3_2.length : Int) := of_decide_eq_true (by first | (with_reducible assumption) | assumption)
                     obtain ⟨ad449, e449, hx449_0⟩ := Kd.at_int (Kd.R_reads' HO_3.out).2.2 (rd (rd_L6 t443 x6_1) x7_2) p449 q449
                     cases e449
                     replace p449 := eq_true p449
                     replace q449 := eq_true q449
                     have p50 : 0 ≤ ((rd (rd_L6 t443 x6_1) x7_2) : Int) := of_decide_eq_true (by first | (with_reducible assumption) | assumption)
                     have q50 : ((rd (rd_L6 t443 x6_1) x7_2) : Int) < ((x3_2.length : Int) : Int) := of_decide_eq_true (by first | (with_reducible assumption) | assumption)
                     obtain ⟨go50, co50, eo50, gb50, gl50, cl50, HG50⟩ := Kd.R_form HO_3.out (by omega)
                     (first | cases eo50 | (injection eo50 with ea_ en_ ec_; (first | subst ea_ | (injection ea_ with ea_; subst ea_)); subst ec_; clear en_))
                     have GB50 := Aside0.mk gb50
                     have GG50 := Aside0.mk HG50
                     clear gb50 gl50 HG50
                     (first | simp only [add_plain] at hx449_0 | skip)
                     obtain ⟨hx50_0, hf50_0⟩ := Kd.R_celln 0 HO_3.out ((rd (rd_L6 t443 x6_1) x7_2) : Int) p50 q50
                     replace p50 := eq_true p50
                     replace q50 := eq_true q50
                     have HP60 := Kd.R_putg HO_3.out ((rd (rd_L6 t443 x6_1) x7_2) : Int) (wrap64 (x6_1 + 1))
                     go_wp2_with (first | ((with_reducible refine gate_store (t := 3) (p := 83) rfl ?_); refine store_event (t := 3) (p := 83) (v := ?vo_w61) (w1 := (wr.setCell ⟨go50, ((rd (rd_L6 t443 x6_1) x7_2) : Int).toNat, none⟩ (.int .i64 (wrap64 (x6_1 + 1))))) ?hg ?ho ?hn ?hr ?_; (case ho => rfl); (case hg => rfl); (case hn => rfl); (case hr => first | (go_simp; done) | (go_simp; rfl)); intro w61 hw; have hg : wr.grownBy w61 (some go50) := (by rw [hw]; exact HP60.2); have hp_ : Kd.R (Kd.int .i64) 3 w61 w.heap.size (fun _ => True) (.slice (some ⟨go50, 0, none⟩) x3_2.length co59) y455 := (by rw [hw, Ny455.out]; exact HP60.1); clear HP60; have n0_ := Aside0.mk (hp_); have n1_ := Aside0.mk (Kd.S_after (v := (.slice (some ⟨go50, 0, none⟩) x3_2.length co59)) (v1 := (.slice (some ⟨go50, 0, none⟩) x3_2.length co59)) (ok := (fun _ => True)) (by (with_reducible repeat (first | apply Kd.S_alloc | apply Kd.S_drewN | apply Kd.S_drew)); exact Kd.S_mono HO_4.out (fun _ hk => ⟨trivial, hk⟩)) hg (.inl rfl)); have n2_ := Aside0.mk (blk_grown (g := gb437) (o := .cells #[.slice A0_0 l0_0.length c0_0, .slice A0_1 l0_1.length c0_1, .slice A0_2 l0_2.length c0_2] 48 (0, 0)) (by (with_reducible repeat (first | refine blk_drewN ?_ _ | refine blk_drew ?_ | refine blk_alloc ?_ _)); exact BK437.out) hg (Kd.R_ne HO_3.out BK437.out (by decide))); have n3_ := Aside0.mk (Kd.R_after (v := (.slice (some ⟨go50, 0, none⟩) x3_2.length co59)) (v1 := (.slice (some ⟨go50, 0, none⟩) x3_2.length co59)) (ok := (fun k_ => some k_ ≠ (.slice (some ad446) t443.length co23 : Value).ownBlock)) (by (with_reducible repeat (first | apply Kd.R_alloc | apply Kd.R_drewN | apply Kd.R_drew)); exact Kd.R_mono HL446_0.out (fun _ hk => ⟨hk.2, hk.1⟩)) hg (.inl rfl)); have n4_ := Aside0.mk (Kd.R_after (v := (.slice (some ⟨go50, 0, none⟩) x3_2.length co59)) (v1 := (.slice (some ⟨go50, 0, none⟩) x3_2.length co59)) (ok := (fun k_ => some k_ ≠ (.slice (some ad446) t443.length co23 : Value).ownBlock)) (by (with_reducible repeat (first | apply Kd.R_alloc | apply Kd.R_drewN | apply Kd.R_drew)); exact Kd.R_mono HL447_0.out (fun _ hk => ⟨hk.2, hk.1⟩)) hg (.inl rfl)); have n5_ := Aside0.mk ((by rw [hw]; exact below_set (HB.out) GB50.out : Below w.heap.size w w61)); clear HO_3; clear HO_4; clear BK437; clear HL446_0; clear HL447_0; clear HB; have HO_3 := n0_; have HO_4 := n1_; have BK437 := n2_; have HL446_0 := n3_; have HL447_0 := n4_; have HB := n5_; clear n0_ n1_ n2_ n3_ n4_ n5_; clear hg hw hp_; have p456 : 0 ≤ (x6_1 : Int) := of_decide_eq_true (by first | (with_reducible assumption) | assumption); have q456 : x6_1 < (t443.length : Int) := of_decide_eq_true (by first | (with_reducible assumption) | assumption); obtain ⟨ad456, A456_0, c456_0, e456, hx456_0, hl456_0, hi456_0⟩ := at_L6 (Kd.S_reads' HO_4.out).2.2 x6_1 p456 q456; obtain rfl : ad446 = ad456 := (by injection e456); obtain ⟨ce456, hce456, hMe456, hcc456⟩ := Kd.S_get HO_4.out [] x6_1 p456 (by first | exact q456 | exact of_decide_eq_true (by first | (with_reducible assumption) | assumption) | (have e_ := (Kd.S_reads' HO_4.out).1; omega)); obtain ⟨ve456_0, rfl, ge456_0⟩ := hMe456; have hv456_0 := hcc456 0 _ rfl; rw [Nat.add_zero, show ((Kd.slice 3 (Kd.int .i64))).sz = 1 from rfl, Nat.mul_one] at hv456_0; replace hv456_0 := Option.some.inj (hv456_0.symm.trans hx456_0); rw [hv456_0] at ge456_0; have HL456_0 := Aside0.mk (show Kd.R (Kd.int .i64) 3 _ _ _ _ (rd_L6 t443 x6_1) from ge456_0); clear hv456_0 ge456_0; clear hcc456 hce456; have HR456_0 := Aside0.mk hi456_0; have HC456_0 := Aside0.mk hl456_0; clear hi456_0 hl456_0; replace p456 := eq_true p456; replace q456 := eq_true q456))
                     go_roundg k2
                     case measure => have := HK1.out; have := HK2.out; omega
                     case rel => exact ⟨(y455), (wrap64 (x5_2 + 1)), (wrap64 (x7_2 + 1)), (by first | rfl | (simp; done) | (simp [*]; done)), (by first | rfl | (simp; done) | (simp [*]; done)), H', ⟨by have := HK1.out; have := HK2.out; omega⟩, ⟨by (with_reducible repeat (first | apply Kd.R_alloc | apply Kd.R_drewN | apply Kd.R_drew)); exact HO_3.out⟩, ⟨by (with_reducible repeat (first | apply Kd.S_alloc | apply Kd.S_drewN | apply Kd.S_drew)); exact Kd.S_mono HO_4.out (fun _ hk => hk.2)⟩, ⟨by (with_reducible repeat (first | refine blk_drewN ?_ _ | refine blk_drew ?_ | refine blk_alloc ?_ _)); exact BK437.out⟩, ⟨by repeat (first | (with_reducible first | exact HB.out | apply below_alloc | apply pw_below_drewN | apply below_drew1 | refine below_set ?_ GE437.out) | exact HB.out)⟩⟩
                  ·rw [if_neg c32] at H
                   exact absurd H (by simp)
                 ·rw [if_neg c31] at H
                  exact absurd H (by simp)
                ·rw [if_neg c30] at H
                 exact absurd H (by simp)
             ·rw [if_neg c27] at H
              exact absurd H (by simp)
            ·rw [if_neg c26] at H
             have c26b0 : decide (x7_2 < ((rd_L6 t443 x6_1).length : Int)) = false := decide_eq_false c26
             clear c26
             have H' := Aside0.mk H
             clear H
             have p446 : 0 ≤ (x6_1 : Int) := of_decide_eq_true (by first | (with_reducible assumption) | assumption)
             have q446 : x6_1 < (t443.length : Int) := of_decide_eq_true (by first | (with_reducible assumption) | assumption)
             obtain ⟨ad446, A446_0, c446_0, e446, hx446_0, hl446_0, hi446_0⟩ := at_L6 (Kd.S_reads' HO_4.out).2.2 x6_1 p446 q446
             cases e446
             obtain ⟨ce446, hce446, hMe446, hcc446⟩ := Kd.S_get HO_4.out [] x6_1 p446 (by first | exact q446 | exact of_decide_eq_true (by first | (with_reducible assumption) | assumption) | (have e_ := (Kd.S_reads' HO_4.out).1; omega))
             obtain ⟨ve446_0, rfl, ge446_0⟩ := hMe446
             have hv446_0 := hcc446 0 _ rfl
             rw [Nat.add_zero, show ((Kd.slice 3 (Kd.int .i64))).sz = 1 from rfl, Nat.mul_one] at hv446_0
             replace hv446_0 := Option.some.inj (hv446_0.symm.trans hx446_0)
             rw [hv446_0] at ge446_0
             have HL446_0 := Aside0.mk (show Kd.R (Kd.int .i64) 3 _ _ _ _ (rd_L6 t443 x6_1) from ge446_0)
             clear hv446_0 ge446_0
             clear hcc446 hce446
             have HR446_0 := Aside0.mk hi446_0
             have HC446_0 := Aside0.mk hl446_0
             clear hi446_0 hl446_0
             replace p446 := eq_true p446
             replace q446 := eq_true q446
             go_wp2
             go_roundg k2
             case measure => have := HK1.out; have := HK2.out; omega
             case rel => exact ⟨(x3_2), (x5_2), (wrap64 (x6_1 + 1)), (by first | rfl | (simp; done) | (simp [*]; done)), (by first | rfl | (simp; done) | (simp [*]; done)), H', ⟨by have := HK1.out; have := HK2.out; omega⟩, ⟨by (with_reducible repeat (first | apply Kd.R_alloc | apply Kd.R_drewN | apply Kd.R_drew)); exact HO_3.out⟩, ⟨by (with_reducible repeat (first | apply Kd.S_alloc | apply Kd.S_drewN | apply Kd.S_drew)); exact HO_4.out⟩, ⟨by (with_reducible repeat (first | refine blk_drewN ?_ _ | refine blk_drew ?_ | refine blk_alloc ?_ _)); exact BK437.out⟩, ⟨by repeat (first | (with_reducible first | exact HB.out | apply below_alloc | apply pw_below_drewN | apply below_drew1 | refine below_set ?_ GE437.out) | exact HB.out)⟩⟩
           ·rw [if_neg c25] at H
            exact absurd H (by simp)
          ·rw [if_neg c24] at H
           exact absurd H (by simp)
       ·rw [if_neg c22] at H
        have c22b0 : decide (x6_1 < (t443.length : Int)) = false := decide_eq_false c22
        clear c22
        by_cases c62 : x5_1 = (l0_2.length : Int)
        ·rw [if_pos c62] at H
         have c62b0 : (x5_1 == (l0_2.length : Int)) = true := beq_iff_eq.mpr c62
         have c62b1 : (x5_1 != (l0_2.length : Int)) = false := bne_eq_false_iff_eq.mpr c62
         clear c62
         have H' := Aside0.mk H
         clear H
         obtain ⟨Ao63, co63, eo63⟩ := Kd.S_slice HO_4.out
         subst eo63
         have hcz64_0 : wr.cell? ⟨gb437, 0, none⟩ = some (.slice A0_0 l0_0.length c0_0) := (blk_cell BK437.out 0).trans rfl
         have hcz64_1 : wr.cell? ⟨gb437, 1, none⟩ = some (.slice A0_1 l0_1.length c0_1) := (blk_cell BK437.out 1).trans rfl
         have hcz64_2 : wr.cell? ⟨gb437, 2, none⟩ = some (.slice A0_2 l0_2.length c0_2) := (blk_cell BK437.out 2).trans rfl
         have hfz64_0 := blk_frozen BK437.out 0
         have hfz64_1 := blk_frozen BK437.out 1
         have hfz64_2 := blk_frozen BK437.out 2
         go_wp2
         go_loopg [9] k1 (fun kq v9 w' => ∃ (x9_2 : Int), v9 = .int .i64 x9_2 ∧ Aside0 (truantlaw20_SccOrder.l2 kq x3_1 x9_2 l0_0 l0_1 l0_2 = some r) ∧ Aside0 (kq ≤ k1) ∧ Aside0 (Kd.R (Kd.int .i64) 3 w' w.heap.size (fun _ => True) v441 x3_1) ∧ Aside0 (w'.heap[gb437]? = some (.cells #[(.slice A0_0 l0_0.length c0_0), (.slice A0_1 l0_1.length c0_1), (.slice A0_2 l0_2.length c0_2)] 48 (0, 0))) ∧ Aside0 (Below w.heap.size w w'))
         case atStart => exact ⟨(0), (by first | rfl | (simp; done) | (simp [*]; done)), H', ⟨Nat.le_refl _⟩, ⟨by (with_reducible repeat (first | apply Kd.R_alloc | apply Kd.R_drewN | apply Kd.R_drew)); exact HO_3.out⟩, ⟨by (with_reducible repeat (first | refine blk_drewN ?_ _ | refine blk_drew ?_ | refine blk_alloc ?_ _)); exact BK437.out⟩, ⟨by repeat (first | (with_reducible first | exact HB.out | apply below_alloc | apply pw_below_drewN | apply below_drew1 | refine below_set ?_ GE437.out) | exact HB.out)⟩⟩
         case round =>
          clear H'
          try clear c1
          try clear c2
          try clear p2
          try clear c3
          try clear p3
          try clear q3
          try clear hx3
          try clear hf3
          try clear c4
          try clear p4
          try clear q4
          try clear hx4
          try clear c5
          try clear p5
          try clear q5
          try clear hx5
          try clear hf5
          try clear c6
          try clear p6
          try clear c8
          try clear c10
          try clear c10b0
          try clear c10b1
          try clear c11
          try clear c11b0
          try clear c11b1
          try clear c22
          try clear c22b0
          try clear c24
          try clear c24b0
          try clear c25
          try clear c25b0
          try clear c26
          try clear c26b0
          try clear c27
          try clear c27b0
          try clear c28
          try clear c28b0
          try clear c29
          try clear c29b0
          try clear c30
          try clear c30b0
          try clear c31
          try clear c31b0
          try clear c32
          try clear c32b0
          try clear c32b1
          try clear c33
          try clear c33b0
          try clear c35
          try clear c35b0
          try clear c36
          try clear c36b0
          try clear c37
          try clear c37b0
          try clear p38
          try clear q38
          try clear hx38
          try clear hf38
          try clear c39
          try clear c39b0
          try clear c39b1
          try clear c41
          try clear c44
          try clear p44
          try clear q44
          try clear hx44
          try clear c45
          try clear p45
          try clear q45
          try clear hx45
          try clear p50
          try clear q50
          try clear hx50
          try clear hf50
          try clear c51
          try clear c51b0
          try clear c51b1
          try clear c53
          try clear c62
          try clear c62b0
          try clear c62b1
          try clear p64
          try clear hcz15_0
          try clear hcz15_1
          try clear hcz15_2
          try clear hcz17_0
          try clear hcz17_1
          try clear hcz17_2
          try clear hcz20_0
          try clear hcz20_1
          try clear hcz20_2
          try clear hcz45_0
          try clear hcz45_1
          try clear hcz45_2
          try clear hcz57_0
          try clear hcz57_1
          try clear hcz57_2
          try clear hcz64_0
          try clear hcz64_1
          try clear hcz64_2
          try clear hcz8_0
          try clear hcz8_1
          try clear hcz8_2
          try clear hfz15_0
          try clear hfz15_1
          try clear hfz15_2
          try clear hfz17_0
          try clear hfz17_1
          try clear hfz17_2
          try clear hfz20_0
          try clear hfz20_1
          try clear hfz20_2
          try clear hfz45_0
          try clear hfz45_1
          try clear hfz45_2
          try clear hfz57_0
          try clear hfz57_1
          try clear hfz57_2
          try clear hfz64_0
          try clear hfz64_1
          try clear hfz64_2
          try clear hfz8_0
          try clear hfz8_1
          try clear hfz8_2
          try clear hx38_0
          try clear hx446_0
          try clear hx447_0
          try clear hx448_0
          try clear hx449_0
          try clear hx450_0
          try clear hx451_0
          try clear hx453_0
          try clear hx456_0
          try clear hx50_0
          try clear p2
          try clear p38
          try clear p446
          try clear p447
          try clear p448
          try clear p449
          try clear p450
          try clear p451
          try clear p453
          try clear p456
          try clear p50
          try clear q38
          try clear q446
          try clear q447
          try clear q448
          try clear q449
          try clear q450
          try clear q451
          try clear q453
          try clear q456
          try clear q50
          obtain ⟨x9_2, rfl, HA, HK2, HO_3, BK437, HB⟩ := hrel
          cases gk with
          | zero => exact absurd HA.out (by simp [truantlaw20_SccOrder.l2])
          | succ k2 =>
           have H := HA.out
           clear HA
           simp only [truantlaw20_SccOrder.l2] at H
           by_cases c65 : x9_2 < (x3_1.length : Int)
           ·rw [if_pos c65] at H
            have c65b0 : decide (x9_2 < (x3_1.length : Int)) = true := decide_eq_true c65
            clear c65
            replace H := Option.bind_eq_some_iff.mp H
            obtain ⟨t458, A660, H⟩ := H
            replace H : ((scc_Comes.f l0_0 l0_1 l0_2 x9_2).bind fun t461 => (truantlaw20_SccOrder.l3 k2 x3_1 x9_2 t458 t461 0 l0_0 l0_1 l0_2)) = some r := H
            have A66 := Aside0.mk A660
            clear A660
            replace H := Option.bind_eq_some_iff.mp H
            obtain ⟨t461, A670, H⟩ := H
            replace H : (truantlaw20_SccOrder.l3 k2 x3_1 x9_2 t458 t461 0 l0_0 l0_1 l0_2) = some r := H
            have A67 := Aside0.mk A670
            clear A670
            have H' := Aside0.mk H
            clear H
            obtain ⟨Ao68, co68, eo68⟩ := Kd.R_slice HO_3.out
            subst eo68
            have hcz69_0 : wr.cell? ⟨gb437, 0, none⟩ = some (.slice A0_0 l0_0.length c0_0) := (blk_cell BK437.out 0).trans rfl
            have hcz69_1 : wr.cell? ⟨gb437, 1, none⟩ = some (.slice A0_1 l0_1.length c0_1) := (blk_cell BK437.out 1).trans rfl
            have hcz69_2 : wr.cell? ⟨gb437, 2, none⟩ = some (.slice A0_2 l0_2.length c0_2) := (blk_cell BK437.out 2).trans rfl
            have hfz69_0 := blk_frozen BK437.out 0
            have hfz69_1 := blk_frozen BK437.out 1
            have hfz69_2 := blk_frozen BK437.out 2
            go_wp2_with (first | ((with_reducible refine gate_callee (f := 31) rfl ?_); refine goesL_ (some 111) rfl rfl Try.func31 (by kernel_rfl) rfl #[.agg #[.slice A0_0 l0_0.length c0_0, .slice A0_1 l0_1.length c0_1, .slice A0_2 l0_2.length c0_2], .int .i64 x9_2] rfl (by (try simp only [List.map_toArray, List.map_cons, List.map_nil]); first | done | rfl | (simp only [List.length_drop, List.length_take]; rfl)) ?_; (with_reducible refine (scc_Calls.calls _ _ l0_0 _ _ l0_1 _ _ l0_2 x9_2 t458 _ ?side1 ?side2 ?side3 ?side4 ?side5 ?side6 A66.out).mono ?_); (case side1 => repeat (first | exact (Kd.C_below HR0_0.out HB.out) | (with_reducible refine Kd.C_alloc ?_ _) | (with_reducible refine Kd.C_drewN ?_ _) | (with_reducible refine Kd.C_drew ?_))); (case side2 => exact HC0_0.out); (case side3 => repeat (first | exact (Kd.C_below HR0_1.out HB.out) | (with_reducible refine Kd.C_alloc ?_ _) | (with_reducible refine Kd.C_drewN ?_ _) | (with_reducible refine Kd.C_drew ?_))); (case side4 => exact HC0_1.out); (case side5 => repeat (first | exact (Kd.C_below HR0_2.out HB.out) | (with_reducible refine Kd.C_alloc ?_ _) | (with_reducible refine Kd.C_drewN ?_ _) | (with_reducible refine Kd.C_drew ?_))); (case side6 => exact HC0_2.out); rintro e w70 ⟨v459, rfl, ho0, hb⟩; refine ⟨_, rfl, ?_⟩; have n0_ := Aside0.mk (Kd.R_elder' (by (with_reducible repeat (first | apply Kd.R_alloc | apply Kd.R_drewN | apply Kd.R_drew)); exact HO_3.out) (Kd.R_base ho0) hb); have n1_ := Aside0.mk (Kd.R_lower (Kd.R_new' ho0 (Kd.R_lt (by (with_reducible repeat (first | apply Kd.R_alloc | apply Kd.R_drewN | apply Kd.R_drew)); exact HO_3.out))) (below_size (by repeat (first | (with_reducible first | exact HB.out | apply below_alloc | apply pw_below_drewN | apply below_drew1 | refine below_set ?_ GE437.out) | exact HB.out)))); have n2_ := Aside0.mk (blk_below (g := gb437) (o := .cells #[.slice A0_0 l0_0.length c0_0, .slice A0_1 l0_1.length c0_1, .slice A0_2 l0_2.length c0_2] 48 (0, 0)) (by (with_reducible repeat (first | refine blk_drewN ?_ _ | refine blk_drew ?_ | refine blk_alloc ?_ _)); exact BK437.out) hb); have n3_ := Aside0.mk (below_step (by repeat (first | (with_reducible first | exact HB.out | apply below_alloc | apply pw_below_drewN | apply below_drew1 | refine below_set ?_ GE437.out) | exact HB.out)) hb); clear HO_3; clear BK437; clear HB; have HO_3 := n0_; have HO460 := n1_; have BK437 := n2_; have HB := n3_; clear n0_ n1_ n2_ n3_; (try clear hb); (try clear hb2); (try clear hk); (try clear hi); (try clear ho0); have hcz71_0 : w70.cell? ⟨gb437, 0, none⟩ = some (.slice A0_0 l0_0.length c0_0) := (blk_cell BK437.out 0).trans rfl; have hcz71_1 : w70.cell? ⟨gb437, 1, none⟩ = some (.slice A0_1 l0_1.length c0_1) := (blk_cell BK437.out 1).trans rfl; have hcz71_2 : w70.cell? ⟨gb437, 2, none⟩ = some (.slice A0_2 l0_2.length c0_2) := (blk_cell BK437.out 2).trans rfl; have hfz71_0 := blk_frozen BK437.out 0; have hfz71_1 := blk_frozen BK437.out 1; have hfz71_2 := blk_frozen BK437.out 2) | ((with_reducible refine gate_callee (f := 32) rfl ?_); refine goesL_ (some 114) rfl rfl Try.func32 (by kernel_rfl) rfl #[.agg #[.slice A0_0 l0_0.length c0_0, .slice A0_1 l0_1.length c0_1, .slice A0_2 l0_2.length c0_2], .int .i64 x9_2] rfl (by (try simp only [List.map_toArray, List.map_cons, List.map_nil]); first | done | rfl | (simp only [List.length_drop, List.length_take]; rfl)) ?_; (with_reducible refine (scc_Comes.calls _ _ l0_0 _ _ l0_1 _ _ l0_2 x9_2 t461 _ ?side1 ?side2 ?side3 ?side4 ?side5 ?side6 A67.out).mono ?_); (case side1 => repeat (first | exact (Kd.C_below HR0_0.out HB.out) | (with_reducible refine Kd.C_alloc ?_ _) | (with_reducible refine Kd.C_drewN ?_ _) | (with_reducible refine Kd.C_drew ?_))); (case side2 => exact HC0_0.out); (case side3 => repeat (first | exact (Kd.C_below HR0_1.out HB.out) | (with_reducible refine Kd.C_alloc ?_ _) | (with_reducible refine Kd.C_drewN ?_ _) | (with_reducible refine Kd.C_drew ?_))); (case side4 => exact HC0_1.out); (case side5 => repeat (first | exact (Kd.C_below HR0_2.out HB.out) | (with_reducible refine Kd.C_alloc ?_ _) | (with_reducible refine Kd.C_drewN ?_ _) | (with_reducible refine Kd.C_drew ?_))); (case side6 => exact HC0_2.out); rintro e w72 ⟨v462, rfl, ho0, hb⟩; refine ⟨_, rfl, ?_⟩; have n0_ := Aside0.mk (Kd.R_elder' (by (with_reducible repeat (first | apply Kd.R_alloc | apply Kd.R_drewN | apply Kd.R_drew)); exact HO_3.out) (Kd.R_base ho0) hb); have n1_ := Aside0.mk (Kd.R_elder' (by (with_reducible repeat (first | apply Kd.R_alloc | apply Kd.R_drewN | apply Kd.R_drew)); exact HO460.out) (Kd.R_base ho0) hb); have n2_ := Aside0.mk (Kd.R_lower (Kd.R_new' (Kd.R_new' ho0 (Kd.R_lt (by (with_reducible repeat (first | apply Kd.R_alloc | apply Kd.R_drewN | apply Kd.R_drew)); exact HO_3.out))) (Kd.R_lt (by (with_reducible repeat (first | apply Kd.R_alloc | apply Kd.R_drewN | apply Kd.R_drew)); exact HO460.out))) (below_size (by repeat (first | (with_reducible first | exact HB.out | apply below_alloc | apply pw_below_drewN | apply below_drew1 | refine below_set ?_ GE437.out) | exact HB.out)))); have n3_ := Aside0.mk (blk_below (g := gb437) (o := .cells #[.slice A0_0 l0_0.length c0_0, .slice A0_1 l0_1.length c0_1, .slice A0_2 l0_2.length c0_2] 48 (0, 0)) (by (with_reducible repeat (first | refine blk_drewN ?_ _ | refine blk_drew ?_ | refine blk_alloc ?_ _)); exact BK437.out) hb); have n4_ := Aside0.mk (below_step (by repeat (first | (with_reducible first | exact HB.out | apply below_alloc | apply pw_below_drewN | apply below_drew1 | refine below_set ?_ GE437.out) | exact HB.out)) hb); clear HO_3; clear HO460; clear BK437; clear HB; have HO_3 := n0_; have HO460 := n1_; have HO463 := n2_; have BK437 := n3_; have HB := n4_; clear n0_ n1_ n2_ n3_ n4_; (try clear hb); (try clear hb2); (try clear hk); (try clear hi); (try clear ho0)))
            go_loopg [12] k2 (fun kq v12 w' => ∃ (x12_3 : Int), v12 = .int .i64 x12_3 ∧ Aside0 (truantlaw20_SccOrder.l3 kq x3_1 x9_2 t458 t461 x12_3 l0_0 l0_1 l0_2 = some r) ∧ Aside0 (kq ≤ k2) ∧ Aside0 (Kd.R (Kd.int .i64) 3 w' w.heap.size (fun k_ => some k_ ≠ (v459 : Value).ownBlock ∧ some k_ ≠ (v462 : Value).ownBlock) (.slice Ao68 x3_1.length co68) x3_1) ∧ Aside0 (Kd.R (Kd.int .i64) 3 w' w.heap.size (fun k_ => some k_ ≠ ((.slice Ao68 x3_1.length co68) : Value).ownBlock ∧ some k_ ≠ (v462 : Value).ownBlock) v459 t458) ∧ Aside0 (Kd.R (Kd.int .i64) 3 w' w.heap.size (fun k_ => some k_ ≠ ((.slice Ao68 x3_1.length co68) : Value).ownBlock ∧ some k_ ≠ (v459 : Value).ownBlock) v462 t461) ∧ Aside0 (w'.heap[gb437]? = some (.cells #[(.slice A0_0 l0_0.length c0_0), (.slice A0_1 l0_1.length c0_1), (.slice A0_2 l0_2.length c0_2)] 48 (0, 0))) ∧ Aside0 (Below w.heap.size w w'))
            case atStart => exact ⟨(0), (by first | rfl | (simp; done) | (simp [*]; done)), H', ⟨Nat.le_refl _⟩, ⟨by (with_reducible repeat (first | apply Kd.R_alloc | apply Kd.R_drewN | apply Kd.R_drew)); exact Kd.R_mono HO_3.out (fun _ hk => ⟨hk.1.2, hk.2⟩)⟩, ⟨by (with_reducible repeat (first | apply Kd.R_alloc | apply Kd.R_drewN | apply Kd.R_drew)); exact Kd.R_mono HO460.out (fun _ hk => ⟨hk.1.2, hk.2⟩)⟩, ⟨by (with_reducible repeat (first | apply Kd.R_alloc | apply Kd.R_drewN | apply Kd.R_drew)); exact Kd.R_mono HO463.out (fun _ hk => ⟨hk.1.2, hk.2⟩)⟩, ⟨by (with_reducible repeat (first | refine blk_drewN ?_ _ | refine blk_drew ?_ | refine blk_alloc ?_ _)); exact BK437.out⟩, ⟨by repeat (first | (with_reducible first | exact HB.out | apply below_alloc | apply pw_below_drewN | apply below_drew1 | refine below_set ?_ GE437.out) | exact HB.out)⟩⟩
            case round =>
             clear H'
             try clear c1
             try clear c2
             try clear p2
             try clear c3
             try clear p3
             try clear q3
             try clear hx3
             try clear hf3
             try clear c4
             try clear p4
             try clear q4
             try clear hx4
             try clear c5
             try clear p5
             try clear q5
             try clear hx5
             try clear hf5
             try clear c6
             try clear p6
             try clear c8
             try clear c10
             try clear c10b0
             try clear c10b1
             try clear c11
             try clear c11b0
             try clear c11b1
             try clear c22
             try clear c22b0
             try clear c24
             try clear c24b0
             try clear c25
             try clear c25b0
             try clear c26
             try clear c26b0
             try clear c27
             try clear c27b0
             try clear c28
             try clear c28b0
             try clear c29
             try clear c29b0
             try clear c30
             try clear c30b0
             try clear c31
             try clear c31b0
             try clear c32
             try clear c32b0
             try clear c32b1
             try clear c33
             try clear c33b0
             try clear c35
             try clear c35b0
             try clear c36
             try clear c36b0
             try clear c37
             try clear c37b0
             try clear p38
             try clear q38
             try clear hx38
             try clear hf38
             try clear c39
             try clear c39b0
             try clear c39b1
             try clear c41
             try clear c44
             try clear p44
             try clear q44
             try clear hx44
             try clear c45
             try clear p45
             try clear q45
             try clear hx45
             try clear p50
             try clear q50
             try clear hx50
             try clear hf50
             try clear c51
             try clear c51b0
             try clear c51b1
             try clear c53
             try clear c62
             try clear c62b0
             try clear c62b1
             try clear p64
             try clear c65
             try clear c65b0
             try clear hcz15_0
             try clear hcz15_1
             try clear hcz15_2
             try clear hcz17_0
             try clear hcz17_1
             try clear hcz17_2
             try clear hcz20_0
             try clear hcz20_1
             try clear hcz20_2
             try clear hcz45_0
             try clear hcz45_1
             try clear hcz45_2
             try clear hcz57_0
             try clear hcz57_1
             try clear hcz57_2
             try clear hcz64_0
             try clear hcz64_1
             try clear hcz64_2
             try clear hcz69_0
             try clear hcz69_1
             try clear hcz69_2
             try clear hcz71_0
             try clear hcz71_1
             try clear hcz71_2
             try clear hcz8_0
             try clear hcz8_1
             try clear hcz8_2
             try clear hfz15_0
             try clear hfz15_1
             try clear hfz15_2
             try clear hfz17_0
             try clear hfz17_1
             try clear hfz17_2
             try clear hfz20_0
             try clear hfz20_1
             try clear hfz20_2
             try clear hfz45_0
             try clear hfz45_1
             try clear hfz45_2
             try clear hfz57_0
             try clear hfz57_1
             try clear hfz57_2
             try clear hfz64_0
             try clear hfz64_1
             try clear hfz64_2
             try clear hfz69_0
             try clear hfz69_1
             try clear hfz69_2
             try clear hfz71_0
             try clear hfz71_1
             try clear hfz71_2
             try clear hfz8_0
             try clear hfz8_1
             try clear hfz8_2
             try clear hx38_0
             try clear hx446_0
             try clear hx447_0
             try clear hx448_0
             try clear hx449_0
             try clear hx450_0
             try clear hx451_0
             try clear hx453_0
             try clear hx456_0
             try clear hx50_0
             try clear p2
             try clear p3
             try clear p38
             try clear p4
             try clear p44
             try clear p446
             try clear p447
             try clear p448
             try clear p449
             try clear p45
             try clear p450
             try clear p451
             try clear p453
             try clear p456
             try clear p5
             try clear p50
             try clear p6
             try clear p64
             try clear q3
             try clear q38
             try clear q4
             try clear q44
             try clear q446
             try clear q447
             try clear q448
             try clear q449
             try clear q45
             try clear q450
             try clear q451
             try clear q453
             try clear q456
             try clear q5
             try clear q50
             obtain ⟨x12_3, rfl, HA, HK3, HO_3, HO_10, HO_11, BK437, HB⟩ := hrel
             cases gk with
             | zero => exact absurd HA.out (by simp [truantlaw20_SccOrder.l3])
             | succ k3 =>
              have H := HA.out
              clear HA
              simp only [truantlaw20_SccOrder.l3] at H
              by_cases c73 : x12_3 < (t458.length : Int)
              ·rw [if_pos c73] at H
               have c73b0 : decide (x12_3 < (t458.length : Int)) = true := decide_eq_true c73
               clear c73
               by_cases c74 : 0 ≤ x12_3
               ·rw [if_pos c74] at H
                have c74b0 : decide (0 ≤ x12_3) = true := decide_eq_true c74
                clear c74
                by_cases c75 : 0 ≤ (rd t458 x12_3)
                ·rw [if_pos c75] at H
                 have c75b0 : decide (0 ≤ (rd t458 x12_3)) = true := decide_eq_true c75
                 clear c75
                 by_cases c76 : (rd t458 x12_3) < (x3_1.length : Int)
                 ·rw [if_pos c76] at H
                  have c76b0 : decide ((rd t458 x12_3) < (x3_1.length : Int)) = true := decide_eq_true c76
                  clear c76
                  by_cases c77 : 0 ≤ x9_2
                  ·rw [if_pos c77] at H
                   have c77b0 : decide (0 ≤ x9_2) = true := decide_eq_true c77
                   clear c77
                   by_cases c78 : x9_2 < (x3_1.length : Int)
                   ·rw [if_pos c78] at H
                    have c78b0 : decide (x9_2 < (x3_1.length : Int)) = true := decide_eq_true c78
                    clear c78
                    by_cases c79 : (rd x3_1 (rd t458 x12_3)) > (rd x3_1 x9_2)
                    ·rw [if_pos c79] at H
                     exact absurd H (by simp)
                    ·rw [if_neg c79] at H
                     have c79b0 : decide ((rd x3_1 x9_2) < (rd x3_1 (rd t458 x12_3))) = false := decide_eq_false c79
                     clear c79
                     replace H := Option.bind_eq_some_iff.mp H
                     obtain ⟨t468, A800, H⟩ := H
                     replace H : (if t468 = true then (truantlaw20_SccOrder.l3 k3 x3_1 x9_2 t458 t461 (wrap64 (x12_3 + 1)) l0_0 l0_1 l0_2) else (none)) = some r := H
                     have A80 := Aside0.mk A800
                     clear A800
                     by_cases c81 : t468 = true
                     ·subst c81
                      have H1 : (truantlaw20_SccOrder.l3 k3 x3_1 x9_2 t458 t461 (wrap64 (x12_3 + 1)) l0_0 l0_1 l0_2) = some r := by rw [if_pos rfl] at H; exact H
                      clear H
                      have H := H1
                      clear H1
                      have H' := Aside0.mk H
                      clear H
                      obtain ⟨Ao82, co82, eo82⟩ := Kd.R_slice HO_10.out
                      subst eo82
                      try go_wp2
                      have n0_ := Aside0.mk (Kd.R_drew HO_3.out)
                      have n1_ := Aside0.mk (Kd.R_drew HO_10.out)
                      have n2_ := Aside0.mk (Kd.R_drew HO_11.out)
                      have n3_ := Aside0.mk (blk_drew BK437.out)
                      have n4_ := Aside0.mk (below_drew1 HB.out)
                      clear HO_3
                      clear HO_10
                      clear HO_11
                      clear BK437
                      clear HB
                      have HO_3 := n0_
                      have HO_10 := n1_
                      have HO_11 := n2_
                      have BK437 := n3_
                      have HB := n4_
                      clear n0_ n1_ n2_ n3_ n4_
                      have p464 : 0 ≤ (x12_3 : Int) := of_decide_eq_true (by first | (with_reducible assumption) | assumption)
                      have q464 : x12_3 < (t458.length : Int) := of_decide_eq_true (by first | (with_reducible assumption) | assumption)
                      obtain ⟨ad464, e464, hx464_0⟩ := Kd.at_int (Kd.R_reads' HO_10.out).2.2 x12_3 p464 q464
                      cases e464
                      replace p464 := eq_true p464
                      replace q464 := eq_true q464
                      have p465 : 0 ≤ ((rd t458 x12_3) : Int) := of_decide_eq_true (by first | (with_reducible assumption) | assumption)
                      have q465 : (rd t458 x12_3) < (x3_1.length : Int) := of_decide_eq_true (by first | (with_reducible assumption) | assumption)
                      obtain ⟨ad465, e465, hx465_0⟩ := Kd.at_int (Kd.R_reads' HO_3.out).2.2 (rd t458 x12_3) p465 q465
                      cases e465
                      replace p465 := eq_true p465
                      replace q465 := eq_true q465
                      have p466 : 0 ≤ (x9_2 : Int) := of_decide_eq_true (by first | (with_reducible assumption) | assumption)
                      have q466 : x9_2 < (x3_1.length : Int) := of_decide_eq_true (by first | (with_reducible assumption) | assumption)
                      obtain ⟨ad466, e466, hx466_0⟩ := Kd.at_int (Kd.R_reads' HO_3.out).2.2 x9_2 p466 q466
                      obtain rfl : ad465 = ad466 := (by injection e466)
                      replace p466 := eq_true p466
                      replace q466 := eq_true q466
                      have p467 : 0 ≤ (x12_3 : Int) := of_decide_eq_true (by first | (with_reducible assumption) | assumption)
                      have q467 : x12_3 < (t458.length : Int) := of_decide_eq_true (by first | (with_reducible assumption) | assumption)
                      obtain ⟨ad467, e467, hx467_0⟩ := Kd.at_int (Kd.R_reads' HO_10.out).2.2 x12_3 p467 q467
                      obtain rfl : ad464 = ad467 := (by injection e467)
                      replace p467 := eq_true p467
                      replace q467 := eq_true q467
                      obtain ⟨Ao84, co84, eo84⟩ := Kd.R_slice HO_11.out
                      (first | subst eo84 | (injection eo84 with f1_ f2_ f3_; have f4_ := f1_.symm; have f5_ := f3_.symm; clear f1_ f2_ f3_; subst f4_; subst f5_))
                      refine start_ (n := 21) (S := fun w' => w'.cell? (ad464.add (x12_3).toNat) = some (.int .i64 (rd t458 x12_3)) ∧ w'.cell? (ad465.add ((rd t458 x12_3)).toNat) = some (.int .i64 (rd x3_1 (rd t458 x12_3))) ∧ w'.cell? (ad465.add (x9_2).toNat) = some (.int .i64 (rd x3_1 x9_2)) ∧ w'.cell? (ad464.add (x12_3).toNat) = some (.int .i64 (rd t458 x12_3))) (ds := []) #[false, false, false, false, false, false, false, false, false, false, false, false, false, false, false, false, false, false, false, false, false] (by kernel_rfl) rfl rfl ⟨hx464_0, hx465_0, hx466_0, hx467_0⟩ (fun hHeld => ?_); refine with_tabW truantlaw20_SccOrder.tab31 truantlaw20_SccOrder.bits31 (fun HT_ HW_ => ?_)
                      generalize wr.drew = w83 at HO_3 HO_10 HO_11 BK437 HB hx464_0 hx465_0 hx466_0 hx467_0 hHeld ⊢
                      refine pure_ (i := 0) (N := some 121) (v := ?_) (a' := ?_) #[true, false, false, false, false, false, false, false, false, false, false, false, false, false, false, false, false, false, false, false, false] rfl rfl (any_of HT_.out (by kernel_rfl)) (fun _ _ _ h => h) (Or.inl ⟨by rfl, ?_⟩) ?_ ?_
                      rotate_left
                      ·intro w'
                       go_simp
                       with_reducible rfl
                      rotate_left
                      ·simp only [Act.put, List.setIfInBounds_toArray, List.set_cons_zero, List.set_cons_succ, i64_w, i32_w]
                       rfl
                      refine pure_ (i := 1) (N := some 122) (v := ?_) (a' := ?_) #[true, true, false, false, false, false, false, false, false, false, false, false, false, false, false, false, false, false, false, false, false] rfl rfl (any_of HT_.out (by kernel_rfl)) (fun _ _ _ h => h) (Or.inl ⟨by rfl, ?_⟩) ?_ ?_
                      rotate_left
                      ·intro w'
                       go_simp
                       with_reducible rfl
                      rotate_left
                      ·simp only [Act.put, List.setIfInBounds_toArray, List.set_cons_zero, List.set_cons_succ, i64_w, i32_w]
                       rfl
                      refine pure_ (i := 2) (N := some 123) (v := ?_) (a' := ?_) #[true, true, true, false, false, false, false, false, false, false, false, false, false, false, false, false, false, false, false, false, false] rfl rfl (any_of HT_.out (by kernel_rfl)) (fun _ _ _ h => h) (Or.inl ⟨by rfl, ?_⟩) ?_ ?_
                      rotate_left
                      ·intro w'
                       go_simp
                       with_reducible rfl
                      rotate_left
                      ·simp only [Act.put, List.setIfInBounds_toArray, List.set_cons_zero, List.set_cons_succ, i64_w, i32_w]
                       rfl
                      refine pure_ (i := 3) (N := some 124) (v := ?_) (a' := ?_) #[true, true, true, true, false, false, false, false, false, false, false, false, false, false, false, false, false, false, false, false, false] rfl rfl (any_of HT_.out (by kernel_rfl)) (fun _ _ _ h => h) (Or.inl ⟨by rfl, ?_⟩) ?_ ?_
                      rotate_left
                      ·intro w'
                       go_simp
                       with_reducible rfl
                      rotate_left
                      ·simp only [Act.put, List.setIfInBounds_toArray, List.set_cons_zero, List.set_cons_succ, i64_w, i32_w]
                       rfl
                      refine pure_ (i := 7) (N := some 128) (v := ?_) (a' := ?_) #[true, true, true, true, false, false, false, true, false, false, false, false, false, false, false, false, false, false, false, false, false] rfl rfl (any_of HT_.out (by kernel_rfl)) (fun _ _ _ h => h) (Or.inl ⟨by rfl, ?_⟩) ?_ ?_
                      rotate_left
                      ·intro w'
                       go_simp
                       with_reducible rfl
                      rotate_left
                      ·simp only [Act.put, List.setIfInBounds_toArray, List.set_cons_zero, List.set_cons_succ, i64_w, i32_w]
                       rfl
                      refine pure_ (i := 8) (N := some 129) (v := ?_) (a' := ?_) #[true, true, true, true, false, false, false, true, true, false, false, false, false, false, false, false, false, false, false, false, false] rfl rfl (any_of HT_.out (by kernel_rfl)) (fun _ _ _ h => h) (Or.inl ⟨by rfl, ?_⟩) ?_ ?_
                      rotate_left
                      ·intro w'
                       go_simp
                       with_reducible rfl
                      rotate_left
                      ·simp only [Act.put, List.setIfInBounds_toArray, List.set_cons_zero, List.set_cons_succ, i64_w, i32_w]
                       rfl
                      refine pure_ (i := 9) (N := some 130) (v := ?_) (a' := ?_) #[true, true, true, true, false, false, false, true, true, true, false, false, false, false, false, false, false, false, false, false, false] rfl rfl (any_of HT_.out (by kernel_rfl)) (fun _ _ _ h => h) (Or.inl ⟨by rfl, ?_⟩) ?_ ?_
                      rotate_left
                      ·intro w'
                       go_simp
                       with_reducible rfl
                      rotate_left
                      ·simp only [Act.put, List.setIfInBounds_toArray, List.set_cons_zero, List.set_cons_succ, i64_w, i32_w]
                       rfl
                      refine take_ (i := 4) (N := some 125) (v := ?_) (a' := ?_) #[true, true, true, true, true, false, false, true, true, true, false, false, false, false, false, false, false, false, false, false, false] rfl rfl (take_ofW HT_.out HW_.out (by kernel_rfl)) (fun _ _ _ h => h) (Or.inl ⟨by rfl, ?_⟩) hHeld ?_ ?_
                      rotate_left
                      ·rintro w' ⟨s0, s1, s2, s3⟩
                       go_simp
                       with_reducible rfl
                      rotate_left
                      ·simp only [Act.put, List.setIfInBounds_toArray, List.set_cons_zero, List.set_cons_succ, i64_w, i32_w]
                       rfl
                      refine pure_ (i := 5) (N := some 126) (v := ?_) (a' := ?_) #[true, true, true, true, true, true, false, true, true, true, false, false, false, false, false, false, false, false, false, false, false] rfl rfl (any_of HT_.out (by kernel_rfl)) (fun _ _ _ h => h) (Or.inl ⟨by rfl, ?_⟩) ?_ ?_
                      rotate_left
                      ·intro w'
                       go_simp
                       with_reducible rfl
                      rotate_left
                      ·simp only [Act.put, List.setIfInBounds_toArray, List.set_cons_zero, List.set_cons_succ, i64_w, i32_w]
                       rfl
                      refine take_ (i := 6) (N := some 127) (v := ?_) (a' := ?_) #[true, true, true, true, true, true, true, true, true, true, false, false, false, false, false, false, false, false, false, false, false] rfl rfl (take_ofW HT_.out HW_.out (by kernel_rfl)) (fun _ _ _ h => h) (Or.inl ⟨by rfl, ?_⟩) hHeld ?_ ?_
                      rotate_left
                      ·rintro w' ⟨s0, s1, s2, s3⟩
                       go_simp
                       with_reducible rfl
                      rotate_left
                      ·simp only [Act.put, List.setIfInBounds_toArray, List.set_cons_zero, List.set_cons_succ, i64_w, i32_w]
                       rfl
                      refine take_ (i := 10) (N := some 131) (v := ?_) (a' := ?_) #[true, true, true, true, true, true, true, true, true, true, true, false, false, false, false, false, false, false, false, false, false] rfl rfl (take_ofW HT_.out HW_.out (by kernel_rfl)) (fun _ _ _ h => h) (Or.inl ⟨by rfl, ?_⟩) hHeld ?_ ?_
                      rotate_left
                      ·rintro w' ⟨s0, s1, s2, s3⟩
                       go_simp
                       with_reducible rfl
                      rotate_left
                      ·simp only [Act.put, List.setIfInBounds_toArray, List.set_cons_zero, List.set_cons_succ, i64_w, i32_w]
                       rfl
                      refine pure_ (i := 11) (N := some 132) (v := ?_) (a' := ?_) #[true, true, true, true, true, true, true, true, true, true, true, true, false, false, false, false, false, false, false, false, false] rfl rfl (any_of HT_.out (by kernel_rfl)) (fun _ _ _ h => h) (Or.inl ⟨by rfl, ?_⟩) ?_ ?_
                      rotate_left
                      ·intro w'
                       go_simp
                       with_reducible rfl
                      rotate_left
                      ·simp only [Act.put, List.setIfInBounds_toArray, List.set_cons_zero, List.set_cons_succ, i64_w, i32_w]
                       rfl
                      refine pure_ (i := 12) (N := some 133) (v := ?_) (a' := ?_) #[true, true, true, true, true, true, true, true, true, true, true, true, true, false, false, false, false, false, false, false, false] rfl rfl (any_of HT_.out (by kernel_rfl)) (fun _ _ _ h => h) (Or.inl ⟨by rfl, ?_⟩) ?_ ?_
                      rotate_left
                      ·intro w'
                       go_simp
                       with_reducible rfl
                      rotate_left
                      ·simp only [Act.put, List.setIfInBounds_toArray, List.set_cons_zero, List.set_cons_succ, i64_w, i32_w]
                       rfl
                      refine pure_ (i := 13) (N := some 134) (v := ?_) (a' := ?_) #[true, true, true, true, true, true, true, true, true, true, true, true, true, true, false, false, false, false, false, false, false] rfl rfl (any_of HT_.out (by kernel_rfl)) (fun _ _ _ h => h) (Or.inl ⟨by rfl, ?_⟩) ?_ ?_
                      rotate_left
                      ·intro w'
                       go_simp
                       with_reducible rfl
                      rotate_left
                      ·simp only [Act.put, List.setIfInBounds_toArray, List.set_cons_zero, List.set_cons_succ, i64_w, i32_w]
                       rfl
                      refine pure_ (i := 14) (N := some 135) (v := ?_) (a' := ?_) #[true, true, true, true, true, true, true, true, true, true, true, true, true, true, true, false, false, false, false, false, false] rfl rfl (any_of HT_.out (by kernel_rfl)) (fun _ _ _ h => h) (Or.inl ⟨by rfl, ?_⟩) ?_ ?_
                      rotate_left
                      ·intro w'
                       go_simp
                       with_reducible rfl
                      rotate_left
                      ·simp only [Act.put, List.setIfInBounds_toArray, List.set_cons_zero, List.set_cons_succ, i64_w, i32_w]
                       rfl
                      refine pure_ (i := 15) (N := some 136) (v := ?_) (a' := ?_) #[true, true, true, true, true, true, true, true, true, true, true, true, true, true, true, true, false, false, false, false, false] rfl rfl (any_of HT_.out (by kernel_rfl)) (fun _ _ _ h => h) (Or.inl ⟨by rfl, ?_⟩) ?_ ?_
                      rotate_left
                      ·intro w'
                       go_simp
                       with_reducible rfl
                      rotate_left
                      ·simp only [Act.put, List.setIfInBounds_toArray, List.set_cons_zero, List.set_cons_succ, i64_w, i32_w]
                       rfl
                      refine pure_ (i := 16) (N := some 137) (v := ?_) (a' := ?_) #[true, true, true, true, true, true, true, true, true, true, true, true, true, true, true, true, true, false, false, false, false] rfl rfl (any_of HT_.out (by kernel_rfl)) (fun _ _ _ h => h) (Or.inl ⟨by rfl, ?_⟩) ?_ ?_
                      rotate_left
                      ·intro w'
                       go_simp
                       with_reducible rfl
                      rotate_left
                      ·simp only [Act.put, List.setIfInBounds_toArray, List.set_cons_zero, List.set_cons_succ, i64_w, i32_w]
                       rfl
                      refine take_ (i := 17) (N := some 138) (v := ?_) (a' := ?_) #[true, true, true, true, true, true, true, true, true, true, true, true, true, true, true, true, true, true, false, false, false] rfl rfl (take_ofW HT_.out HW_.out (by kernel_rfl)) (fun _ _ _ h => h) (Or.inl ⟨by rfl, ?_⟩) hHeld ?_ ?_
                      rotate_left
                      ·rintro w' ⟨s0, s1, s2, s3⟩
                       go_simp
                       with_reducible rfl
                      rotate_left
                      ·simp only [Act.put, List.setIfInBounds_toArray, List.set_cons_zero, List.set_cons_succ, i64_w, i32_w]
                       rfl
                      refine one_ (i := 18) (N := some 139) #[true, true, true, true, true, true, true, true, true, true, true, true, true, true, true, true, true, true, true, false, false] rfl rfl (one_of HT_.out (by kernel_rfl)) (by decide) (fun K hK => ?_)
                      refine goes_ Try.func37 (by kernel_rfl) rfl #[.slice Ao84 t461.length co84, .int .i64 (rd t458 x12_3)] (by rfl) rfl rfl (by (try simp only [List.map_toArray, List.map_cons, List.map_nil]); first | done | rfl | (simp only [List.length_drop, List.length_take]; rfl)) ?_
                      with_reducible refine (truantlaw20_has.calls k3 _ _ t461 (rd t458 x12_3) true _ ?side1 ?side2 A80.out).mono ?_
                      (case side1 => repeat (first | exact (Kd.R_reads' HO_11.out).2.2 | (with_reducible refine Kd.C_alloc ?_ _) | (with_reducible refine Kd.C_drewN ?_ _) | (with_reducible refine Kd.C_drew ?_)))
                      (case side2 => exact (Kd.R_reads' HO_11.out).2.1)
                      rintro e w' ⟨rfl, ⟨nd, rfl⟩⟩
                      refine ⟨_, rfl, ?_⟩
                      refine hK.out _ _ ⟨hHeld.1, hHeld.2.1, hHeld.2.2.1, hHeld.2.2.2⟩ (fun hHeld => ?_)
                      clear hK K
                      refine norm_ (a' := ?_) ?_ ?_
                      rotate_left
                      ·show Act.put _ (some 139) _ = _
                       simp only [Act.put, List.setIfInBounds_toArray, List.set_cons_zero, List.set_cons_succ, i64_w, i32_w]
                       rfl
                      refine pure_ (i := 19) (N := some 140) (v := ?_) (a' := ?_) #[true, true, true, true, true, true, true, true, true, true, true, true, true, true, true, true, true, true, true, true, false] rfl rfl (any_of HT_.out (by kernel_rfl)) (fun _ _ _ h => h) (Or.inl ⟨by rfl, ?_⟩) ?_ ?_
                      rotate_left
                      ·intro w'
                       go_simp
                       with_reducible rfl
                      rotate_left
                      ·simp only [Act.put, List.setIfInBounds_toArray, List.set_cons_zero, List.set_cons_succ, i64_w, i32_w]
                       rfl
                      refine pure_ (i := 20) (N := some 141) (v := ?_) (a' := ?_) #[true, true, true, true, true, true, true, true, true, true, true, true, true, true, true, true, true, true, true, true, true] rfl rfl (any_of HT_.out (by kernel_rfl)) (fun _ _ _ h => h) (Or.inl ⟨by rfl, ?_⟩) ?_ ?_
                      rotate_left
                      ·intro w'
                       go_simp
                       with_reducible rfl
                      rotate_left
                      ·simp only [Act.put, List.setIfInBounds_toArray, List.set_cons_zero, List.set_cons_succ, i64_w, i32_w]
                       rfl
                      refine done_ (done_of HT_.out (by kernel_rfl)) ?_
                      try go_wp2
                      go_roundg k3
                      case measure => have := HK1.out; have := HK2.out; have := HK3.out; omega
                      case rel => exact ⟨(wrap64 (x12_3 + 1)), (by first | rfl | (simp; done) | (simp [*]; done)), H', ⟨by have := HK1.out; have := HK2.out; have := HK3.out; omega⟩, ⟨by (with_reducible repeat (first | apply Kd.R_alloc | apply Kd.R_drewN | apply Kd.R_drew)); exact HO_3.out⟩, ⟨by (with_reducible repeat (first | apply Kd.R_alloc | apply Kd.R_drewN | apply Kd.R_drew)); exact HO_10.out⟩, ⟨by (with_reducible repeat (first | apply Kd.R_alloc | apply Kd.R_drewN | apply Kd.R_drew)); exact HO_11.out⟩, ⟨by (with_reducible repeat (first | refine blk_drewN ?_ _ | refine blk_drew ?_ | refine blk_alloc ?_ _)); exact BK437.out⟩, ⟨by repeat (first | (with_reducible first | exact HB.out | apply below_alloc | apply pw_below_drewN | apply below_drew1 | refine below_set ?_ GE437.out) | exact HB.out)⟩⟩
                     ·replace c81 := Bool.eq_false_iff.mpr c81
                      subst c81
                      have H1 : (none) = some r := by rw [if_neg (show ¬ (false = true) by decide)] at H; exact H
                      clear H
                      have H := H1
                      clear H1
                      exact absurd H (by simp)
                   ·rw [if_neg c78] at H
                    exact absurd H (by simp)
                  ·rw [if_neg c77] at H
                   exact absurd H (by simp)
                 ·rw [if_neg c76] at H
                  exact absurd H (by simp)
                ·rw [if_neg c75] at H
                 exact absurd H (by simp)
               ·rw [if_neg c74] at H
                exact absurd H (by simp)
              ·rw [if_neg c73] at H
               have c73b0 : decide (x12_3 < (t458.length : Int)) = false := decide_eq_false c73
               clear c73
               have H' := Aside0.mk H
               clear H
               obtain ⟨Ao85, co85, eo85⟩ := Kd.R_slice HO_10.out
               subst eo85
               go_wp2
               go_loopg [13] k3 (fun kq v13 w' => ∃ (x13_4 : Int), v13 = .int .i64 x13_4 ∧ Aside0 (truantlaw20_SccOrder.l4 kq x3_1 x9_2 t461 x13_4 l0_0 l0_1 l0_2 = some r) ∧ Aside0 (kq ≤ k3) ∧ Aside0 (Kd.R (Kd.int .i64) 3 w' w.heap.size (fun k_ => some k_ ≠ (v462 : Value).ownBlock) (.slice Ao68 x3_1.length co68) x3_1) ∧ Aside0 (Kd.R (Kd.int .i64) 3 w' w.heap.size (fun k_ => some k_ ≠ ((.slice Ao68 x3_1.length co68) : Value).ownBlock) v462 t461) ∧ Aside0 (w'.heap[gb437]? = some (.cells #[(.slice A0_0 l0_0.length c0_0), (.slice A0_1 l0_1.length c0_1), (.slice A0_2 l0_2.length c0_2)] 48 (0, 0))) ∧ Aside0 (Below w.heap.size w w'))
               case atStart => exact ⟨(0), (by first | rfl | (simp; done) | (simp [*]; done)), H', ⟨Nat.le_refl _⟩, ⟨by (with_reducible repeat (first | apply Kd.R_alloc | apply Kd.R_drewN | apply Kd.R_drew)); exact Kd.R_mono HO_3.out (fun _ hk => hk.2)⟩, ⟨by (with_reducible repeat (first | apply Kd.R_alloc | apply Kd.R_drewN | apply Kd.R_drew)); exact Kd.R_mono HO_11.out (fun _ hk => hk.1)⟩, ⟨by (with_reducible repeat (first | refine blk_drewN ?_ _ | refine blk_drew ?_ | refine blk_alloc ?_ _)); exact BK437.out⟩, ⟨by repeat (first | (with_reducible first | exact HB.out | apply below_alloc | apply pw_below_drewN | apply below_drew1 | refine below_set ?_ GE437.out) | exact HB.out)⟩⟩
               case round =>
                clear H'
                try clear c1
                try clear c2
                try clear p2
                try clear c3
                try clear p3
                try clear q3
                try clear hx3
                try clear hf3
                try clear c4
                try clear p4
                try clear q4
                try clear hx4
                try clear c5
                try clear p5
                try clear q5
                try clear hx5
                try clear hf5
                try clear c6
                try clear p6
                try clear c7
                try clear c8
                try clear c10
                try clear c10b0
                try clear c10b1
                try clear c11
                try clear c11b0
                try clear c11b1
                try clear c22
                try clear c22b0
                try clear c24
                try clear c24b0
                try clear c25
                try clear c25b0
                try clear c26
                try clear c26b0
                try clear c27
                try clear c27b0
                try clear c28
                try clear c28b0
                try clear c29
                try clear c29b0
                try clear c30
                try clear c30b0
                try clear c31
                try clear c31b0
                try clear c32
                try clear c32b0
                try clear c32b1
                try clear c33
                try clear c33b0
                try clear c35
                try clear c35b0
                try clear c36
                try clear c36b0
                try clear c37
                try clear c37b0
                try clear p38
                try clear q38
                try clear hx38
                try clear hf38
                try clear c39
                try clear c39b0
                try clear c39b1
                try clear c41
                try clear c44
                try clear p44
                try clear q44
                try clear hx44
                try clear c45
                try clear p45
                try clear q45
                try clear hx45
                try clear p46
                try clear q46
                try clear hx46
                try clear p50
                try clear q50
                try clear hx50
                try clear hf50
                try clear c51
                try clear c51b0
                try clear c51b1
                try clear c53
                try clear c62
                try clear c62b0
                try clear c62b1
                try clear p64
                try clear c65
                try clear c65b0
                try clear c73
                try clear c73b0
                try clear c74
                try clear c74b0
                try clear c75
                try clear c75b0
                try clear c76
                try clear c76b0
                try clear c77
                try clear c77b0
                try clear c78
                try clear c78b0
                try clear c79
                try clear c79b0
                try clear c81
                try clear hcz15_0
                try clear hcz15_1
                try clear hcz15_2
                try clear hcz17_0
                try clear hcz17_1
                try clear hcz17_2
                try clear hcz20_0
                try clear hcz20_1
                try clear hcz20_2
                try clear hcz45_0
                try clear hcz45_1
                try clear hcz45_2
                try clear hcz57_0
                try clear hcz57_1
                try clear hcz57_2
                try clear hcz64_0
                try clear hcz64_1
                try clear hcz64_2
                try clear hcz69_0
                try clear hcz69_1
                try clear hcz69_2
                try clear hcz71_0
                try clear hcz71_1
                try clear hcz71_2
                try clear hcz8_0
                try clear hcz8_1
                try clear hcz8_2
                try clear hfz15_0
                try clear hfz15_1
                try clear hfz15_2
                try clear hfz17_0
                try clear hfz17_1
                try clear hfz17_2
                try clear hfz20_0
                try clear hfz20_1
                try clear hfz20_2
                try clear hfz45_0
                try clear hfz45_1
                try clear hfz45_2
                try clear hfz57_0
                try clear hfz57_1
                try clear hfz57_2
                try clear hfz64_0
                try clear hfz64_1
                try clear hfz64_2
                try clear hfz69_0
                try clear hfz69_1
                try clear hfz69_2
                try clear hfz71_0
                try clear hfz71_1
                try clear hfz71_2
                try clear hfz8_0
                try clear hfz8_1
                try clear hfz8_2
                try clear hx38_0
                try clear hx446_0
                try clear hx447_0
                try clear hx448_0
                try clear hx449_0
                try clear hx450_0
                try clear hx451_0
                try clear hx453_0
                try clear hx456_0
                try clear hx464_0
                try clear hx465_0
                try clear hx466_0
                try clear hx467_0
                try clear hx50_0
                try clear p2
                try clear p3
                try clear p38
                try clear p4
                try clear p44
                try clear p446
                try clear p447
                try clear p448
                try clear p449
                try clear p45
                try clear p450
                try clear p451
                try clear p453
                try clear p456
                try clear p464
                try clear p465
                try clear p466
                try clear p467
                try clear p5
                try clear p50
                try clear p6
                try clear p64
                try clear q3
                try clear q38
                try clear q4
                try clear q44
                try clear q446
                try clear q447
                try clear q448
                try clear q449
                try clear q45
                try clear q450
                try clear q451
                try clear q453
                try clear q456
                try clear q464
                try clear q465
                try clear q466
                try clear q467
                try clear q5
                try clear q50
                obtain ⟨x13_4, rfl, HA, HK4, HO_3, HO_11, BK437, HB⟩ := hrel
                cases gk with
                | zero => exact absurd HA.out (by simp [truantlaw20_SccOrder.l4])
                | succ k4 =>
                 have H := HA.out
                 clear HA
                 simp only [truantlaw20_SccOrder.l4] at H
                 by_cases c86 : x13_4 < (t461.length : Int)
                 ·rw [if_pos c86] at H
                  have c86b0 : decide (x13_4 < (t461.length : Int)) = true := decide_eq_true c86
                  clear c86
                  by_cases c87 : 0 ≤ x13_4
                  ·rw [if_pos c87] at H
                   have c87b0 : decide (0 ≤ x13_4) = true := decide_eq_true c87
                   clear c87
                   replace H := Option.bind_eq_some_iff.mp H
                   obtain ⟨t470, A880, H⟩ := H
                   replace H : (truantlaw20_SccOrder.l5 k4 x3_1 x9_2 t461 x13_4 t470 0 l0_0 l0_1 l0_2) = some r := H
                   have A88 := Aside0.mk A880
                   clear A880
                   have H' := Aside0.mk H
                   clear H
                   obtain ⟨Ao89, co89, eo89⟩ := Kd.R_slice HO_11.out
                   subst eo89
                   try go_wp2
                   have n0_ := Aside0.mk (Kd.R_drew HO_3.out)
                   have n1_ := Aside0.mk (Kd.R_drew HO_11.out)
                   have n2_ := Aside0.mk (blk_drew BK437.out)
                   have n3_ := Aside0.mk (below_drew1 HB.out)
                   clear HO_3
                   clear HO_11
                   clear BK437
                   clear HB
                   have HO_3 := n0_
                   have HO_11 := n1_
                   have BK437 := n2_
                   have HB := n3_
                   clear n0_ n1_ n2_ n3_
                   have p469 : 0 ≤ (x13_4 : Int) := of_decide_eq_true (by first | (with_reducible assumption) | assumption)
                   have q469 : x13_4 < (t461.length : Int) := of_decide_eq_true (by first | (with_reducible assumption) | assumption)
                   obtain ⟨ad469, e469, hx469_0⟩ := Kd.at_int (Kd.R_reads' HO_11.out).2.2 x13_4 p469 q469
                   cases e469
                   replace p469 := eq_true p469
                   replace q469 := eq_true q469
                   refine start_ (n := 7) (S := fun w' => w'.cell? ⟨gb437, 0, none⟩ = some (.slice A0_0 l0_0.length c0_0) ∧ w'.cell? ⟨gb437, 1, none⟩ = some (.slice A0_1 l0_1.length c0_1) ∧ w'.cell? ⟨gb437, 2, none⟩ = some (.slice A0_2 l0_2.length c0_2) ∧ w'.cell? (ad469.add (x13_4).toNat) = some (.int .i64 (rd t461 x13_4))) (ds := []) #[false, false, false, false, false, false, false] (by kernel_rfl) rfl rfl ⟨(blk_cell BK437.out 0).trans rfl, (blk_cell BK437.out 1).trans rfl, (blk_cell BK437.out 2).trans rfl, hx469_0⟩ (fun hHeld => ?_)
                   generalize wr.drew = w90 at HO_3 HO_11 BK437 HB hx469_0 hHeld ⊢
                   refine pure_ (i := 1) (N := some 149) (v := ?_) (a' := ?_) #[false, true, false, false, false, false, false] rfl rfl (by kernel_rfl) (fun _ _ _ h => h) (Or.inl ⟨by rfl, ?_⟩) ?_ ?_
                   rotate_left
                   ·intro w'
                    go_simp
                    with_reducible rfl
                   rotate_left
                   ·simp only [Act.put, List.setIfInBounds_toArray, List.set_cons_zero, List.set_cons_succ, i64_w, i32_w]
                    rfl
                   refine pure_ (i := 2) (N := some 150) (v := ?_) (a' := ?_) #[false, true, true, false, false, false, false] rfl rfl (by kernel_rfl) (fun _ _ _ h => h) (Or.inl ⟨by rfl, ?_⟩) ?_ ?_
                   rotate_left
                   ·intro w'
                    go_simp
                    with_reducible rfl
                   rotate_left
                   ·simp only [Act.put, List.setIfInBounds_toArray, List.set_cons_zero, List.set_cons_succ, i64_w, i32_w]
                    rfl
                   refine pure_ (i := 3) (N := some 151) (v := ?_) (a' := ?_) #[false, true, true, true, false, false, false] rfl rfl (by kernel_rfl) (fun _ _ _ h => h) (Or.inl ⟨by rfl, ?_⟩) ?_ ?_
                   rotate_left
                   ·intro w'
                    go_simp
                    with_reducible rfl
                   rotate_left
                   ·simp only [Act.put, List.setIfInBounds_toArray, List.set_cons_zero, List.set_cons_succ, i64_w, i32_w]
                    rfl
                   refine take_ (i := 0) (N := some 148) (v := ?_) (a' := ?_) #[true, true, true, true, false, false, false] rfl rfl (by kernel_rfl) (fun _ _ _ h => h) (Or.inl ⟨by rfl, ?_⟩) hHeld ?_ ?_
                   rotate_left
                   ·rintro w' ⟨s0, s1, s2, s3⟩
                    go_simp
                    with_reducible rfl
                   rotate_left
                   ·simp only [Act.put, List.setIfInBounds_toArray, List.set_cons_zero, List.set_cons_succ, i64_w, i32_w]
                    rfl
                   refine take_ (i := 4) (N := some 152) (v := ?_) (a' := ?_) #[true, true, true, true, true, false, false] rfl rfl (by kernel_rfl) (fun _ _ _ h => h) (Or.inl ⟨by rfl, ?_⟩) hHeld ?_ ?_
                   rotate_left
                   ·rintro w' ⟨s0, s1, s2, s3⟩
                    go_simp
                    with_reducible rfl
                   rotate_left
                   ·simp only [Act.put, List.setIfInBounds_toArray, List.set_cons_zero, List.set_cons_succ, i64_w, i32_w]
                    rfl
                   refine one_ (i := 5) (N := some 153) #[true, true, true, true, true, true, false] rfl rfl (by kernel_rfl) (by decide) (fun K hK => ?_)
                   refine goes_ Try.func32 (by kernel_rfl) rfl #[.agg #[.slice A0_0 l0_0.length c0_0, .slice A0_1 l0_1.length c0_1, .slice A0_2 l0_2.length c0_2], .int .i64 (rd t461 x13_4)] (by rfl) rfl rfl (by (try simp only [List.map_toArray, List.map_cons, List.map_nil]); first | done | rfl | (simp only [List.length_drop, List.length_take]; rfl)) ?_
                   with_reducible refine (scc_Comes.calls _ _ l0_0 _ _ l0_1 _ _ l0_2 (rd t461 x13_4) t470 _ ?side1 ?side2 ?side3 ?side4 ?side5 ?side6 A88.out).mono ?_
                   (case side1 => repeat (first | exact (Kd.C_below HR0_0.out HB.out) | (with_reducible refine Kd.C_alloc ?_ _) | (with_reducible refine Kd.C_drewN ?_ _) | (with_reducible refine Kd.C_drew ?_)))
                   (case side2 => exact HC0_0.out)
                   (case side3 => repeat (first | exact (Kd.C_below HR0_1.out HB.out) | (with_reducible refine Kd.C_alloc ?_ _) | (with_reducible refine Kd.C_drewN ?_ _) | (with_reducible refine Kd.C_drew ?_)))
                   (case side4 => exact HC0_1.out)
                   (case side5 => repeat (first | exact (Kd.C_below HR0_2.out HB.out) | (with_reducible refine Kd.C_alloc ?_ _) | (with_reducible refine Kd.C_drewN ?_ _) | (with_reducible refine Kd.C_drew ?_)))
                   (case side6 => exact HC0_2.out)
                   rintro e w91 ⟨v471, rfl, ho0, hb⟩
                   have HS3_ := (hb.cell (World.block_lt_of_cell? _ _ (hHeld.2.2.2))).trans (hHeld.2.2.2)
                   refine ⟨_, rfl, ?_⟩
                   have n0_ := Aside0.mk (Kd.R_elder' (by (with_reducible repeat (first | apply Kd.R_alloc | apply Kd.R_drewN | apply Kd.R_drew)); exact HO_3.out) (Kd.R_base ho0) hb)
                   have n1_ := Aside0.mk (Kd.R_elder' (by (with_reducible repeat (first | apply Kd.R_alloc | apply Kd.R_drewN | apply Kd.R_drew)); exact HO_11.out) (Kd.R_base ho0) hb)
                   have n2_ := Aside0.mk (Kd.R_lower (Kd.R_new' (Kd.R_new' ho0 (Kd.R_lt (by (with_reducible repeat (first | apply Kd.R_alloc | apply Kd.R_drewN | apply Kd.R_drew)); exact HO_3.out))) (Kd.R_lt (by (with_reducible repeat (first | apply Kd.R_alloc | apply Kd.R_drewN | apply Kd.R_drew)); exact HO_11.out))) (below_size (by repeat (first | (with_reducible first | exact HB.out | apply below_alloc | apply pw_below_drewN | apply below_drew1 | refine below_set ?_ GE437.out) | exact HB.out))))
                   have n3_ := Aside0.mk (blk_below (g := gb437) (o := .cells #[.slice A0_0 l0_0.length c0_0, .slice A0_1 l0_1.length c0_1, .slice A0_2 l0_2.length c0_2] 48 (0, 0)) (by (with_reducible repeat (first | refine blk_drewN ?_ _ | refine blk_drew ?_ | refine blk_alloc ?_ _)); exact BK437.out) hb)
                   have n4_ := Aside0.mk (below_step (by repeat (first | (with_reducible first | exact HB.out | apply below_alloc | apply pw_below_drewN | apply below_drew1 | refine below_set ?_ GE437.out) | exact HB.out)) hb)
                   clear HO_3
                   clear HO_11
                   clear BK437
                   clear HB
                   have HO_3 := n0_
                   have HO_11 := n1_
                   have HO472 := n2_
                   have BK437 := n3_
                   have HB := n4_
                   clear n0_ n1_ n2_ n3_ n4_
                   (try clear hb)
                   (try clear hb2)
                   (try clear hk)
                   (try clear hi)
                   (try clear ho0)
                   refine hK.out _ _ ⟨(blk_cell BK437.out 0).trans rfl, (blk_cell BK437.out 1).trans rfl, (blk_cell BK437.out 2).trans rfl, HS3_⟩ (fun hHeld => ?_)
                   clear hK K
                   refine norm_ (a' := ?_) ?_ ?_
                   rotate_left
                   ·show Act.put _ (some 153) _ = _
                    simp only [Act.put, List.setIfInBounds_toArray, List.set_cons_zero, List.set_cons_succ, i64_w, i32_w]
                    rfl
                   refine pure_ (i := 6) (N := some 14) (v := ?_) (a' := ?_) #[true, true, true, true, true, true, true] rfl rfl (by kernel_rfl) (fun _ _ _ h => h) (Or.inl ⟨by rfl, ?_⟩) ?_ ?_
                   rotate_left
                   ·intro w'
                    go_simp
                    with_reducible rfl
                   rotate_left
                   ·simp only [Act.put, List.setIfInBounds_toArray, List.set_cons_zero, List.set_cons_succ, i64_w, i32_w]
                    rfl
                   refine done_ (by kernel_rfl) ?_
                   try go_wp2
                   go_loopg [15] k4 (fun kq v15 w' => ∃ (x15_5 : Int), v15 = .int .i64 x15_5 ∧ Aside0 (truantlaw20_SccOrder.l5 kq x3_1 x9_2 t461 x13_4 t470 x15_5 l0_0 l0_1 l0_2 = some r) ∧ Aside0 (kq ≤ k4) ∧ Aside0 (Kd.R (Kd.int .i64) 3 w' w.heap.size (fun k_ => some k_ ≠ ((.slice (some ad469) t461.length co89) : Value).ownBlock ∧ some k_ ≠ (v471 : Value).ownBlock) (.slice Ao68 x3_1.length co68) x3_1) ∧ Aside0 (Kd.R (Kd.int .i64) 3 w' w.heap.size (fun k_ => some k_ ≠ ((.slice Ao68 x3_1.length co68) : Value).ownBlock ∧ some k_ ≠ (v471 : Value).ownBlock) (.slice (some ad469) t461.length co89) t461) ∧ Aside0 (Kd.R (Kd.int .i64) 3 w' w.heap.size (fun k_ => some k_ ≠ ((.slice Ao68 x3_1.length co68) : Value).ownBlock ∧ some k_ ≠ ((.slice (some ad469) t461.length co89) : Value).ownBlock) v471 t470) ∧ Aside0 (w'.heap[gb437]? = some (.cells #[(.slice A0_0 l0_0.length c0_0), (.slice A0_1 l0_1.length c0_1), (.slice A0_2 l0_2.length c0_2)] 48 (0, 0))) ∧ Aside0 (Below w.heap.size w w'))
                   case atStart => exact ⟨(0), (by first | rfl | (simp; done) | (simp [*]; done)), H', ⟨Nat.le_refl _⟩, ⟨by (with_reducible repeat (first | apply Kd.R_alloc | apply Kd.R_drewN | apply Kd.R_drew)); exact HO_3.out⟩, ⟨by (with_reducible repeat (first | apply Kd.R_alloc | apply Kd.R_drewN | apply Kd.R_drew)); exact HO_11.out⟩, ⟨by (with_reducible repeat (first | apply Kd.R_alloc | apply Kd.R_drewN | apply Kd.R_drew)); exact Kd.R_mono HO472.out (fun _ hk => ⟨hk.1.2, hk.2⟩)⟩, ⟨by (with_reducible repeat (first | refine blk_drewN ?_ _ | refine blk_drew ?_ | refine blk_alloc ?_ _)); exact BK437.out⟩, ⟨by repeat (first | (with_reducible first | exact HB.out | apply below_alloc | apply pw_below_drewN | apply below_drew1 | refine below_set ?_ GE437.out) | exact HB.out)⟩⟩
                   case round =>
                    clear H'
                    try clear c1
                    try clear c2
                    try clear p2
                    try clear c3
                    try clear p3
                    try clear q3
                    try clear hx3
                    try clear hf3
                    try clear c4
                    try clear p4
                    try clear q4
                    try clear hx4
                    try clear c5
                    try clear p5
                    try clear q5
                    try clear hx5
                    try clear hf5
                    try clear c6
                    try clear p6
                    try clear c7
                    try clear c8
                    try clear c10
                    try clear c10b0
                    try clear c10b1
                    try clear c11
                    try clear c11b0
                    try clear c11b1
                    try clear c22
                    try clear c22b0
                    try clear c24
                    try clear c24b0
                    try clear c25
                    try clear c25b0
                    try clear c26
                    try clear c26b0
                    try clear c27
                    try clear c27b0
                    try clear c28
                    try clear c28b0
                    try clear c29
                    try clear c29b0
                    try clear c30
                    try clear c30b0
                    try clear c31
                    try clear c31b0
                    try clear c32
                    try clear c32b0
                    try clear c32b1
                    try clear c33
                    try clear c33b0
                    try clear c35
                    try clear c35b0
                    try clear c36
                    try clear c36b0
                    try clear c37
                    try clear c37b0
                    try clear p38
                    try clear q38
                    try clear hx38
                    try clear hf38
                    try clear c39
                    try clear c39b0
                    try clear c39b1
                    try clear c41
                    try clear c44
                    try clear p44
                    try clear q44
                    try clear hx44
                    try clear c45
                    try clear p45
                    try clear q45
                    try clear hx45
                    try clear p46
                    try clear q46
                    try clear hx46
                    try clear p50
                    try clear q50
                    try clear hx50
                    try clear hf50
                    try clear c51
                    try clear c51b0
                    try clear c51b1
                    try clear c53
                    try clear c62
                    try clear c62b0
                    try clear c62b1
                    try clear p64
                    try clear c65
                    try clear c65b0
                    try clear c73
                    try clear c73b0
                    try clear c74
                    try clear c74b0
                    try clear c75
                    try clear c75b0
                    try clear c76
                    try clear c76b0
                    try clear c77
                    try clear c77b0
                    try clear c78
                    try clear c78b0
                    try clear c79
                    try clear c79b0
                    try clear c81
                    try clear c86
                    try clear c86b0
                    try clear c87
                    try clear c87b0
                    try clear hcz15_0
                    try clear hcz15_1
                    try clear hcz15_2
                    try clear hcz17_0
                    try clear hcz17_1
                    try clear hcz17_2
                    try clear hcz20_0
                    try clear hcz20_1
                    try clear hcz20_2
                    try clear hcz45_0
                    try clear hcz45_1
                    try clear hcz45_2
                    try clear hcz57_0
                    try clear hcz57_1
                    try clear hcz57_2
                    try clear hcz64_0
                    try clear hcz64_1
                    try clear hcz64_2
                    try clear hcz69_0
                    try clear hcz69_1
                    try clear hcz69_2
                    try clear hcz71_0
                    try clear hcz71_1
                    try clear hcz71_2
                    try clear hcz8_0
                    try clear hcz8_1
                    try clear hcz8_2
                    try clear hfz15_0
                    try clear hfz15_1
                    try clear hfz15_2
                    try clear hfz17_0
                    try clear hfz17_1
                    try clear hfz17_2
                    try clear hfz20_0
                    try clear hfz20_1
                    try clear hfz20_2
                    try clear hfz45_0
                    try clear hfz45_1
                    try clear hfz45_2
                    try clear hfz57_0
                    try clear hfz57_1
                    try clear hfz57_2
                    try clear hfz64_0
                    try clear hfz64_1
                    try clear hfz64_2
                    try clear hfz69_0
                    try clear hfz69_1
                    try clear hfz69_2
                    try clear hfz71_0
                    try clear hfz71_1
                    try clear hfz71_2
                    try clear hfz8_0
                    try clear hfz8_1
                    try clear hfz8_2
                    try clear hx38_0
                    try clear hx446_0
                    try clear hx447_0
                    try clear hx448_0
                    try clear hx449_0
                    try clear hx450_0
                    try clear hx451_0
                    try clear hx453_0
                    try clear hx456_0
                    try clear hx464_0
                    try clear hx465_0
                    try clear hx466_0
                    try clear hx467_0
                    try clear hx469_0
                    try clear hx50_0
                    try clear p2
                    try clear p3
                    try clear p38
                    try clear p4
                    try clear p44
                    try clear p446
                    try clear p447
                    try clear p448
                    try clear p449
                    try clear p45
                    try clear p450
                    try clear p451
                    try clear p453
                    try clear p456
                    try clear p46
                    try clear p464
                    try clear p465
                    try clear p466
                    try clear p467
                    try clear p469
                    try clear p5
                    try clear p50
                    try clear p6
                    try clear p64
                    try clear q3
                    try clear q38
                    try clear q4
                    try clear q44
                    try clear q446
                    try clear q447
                    try clear q448
                    try clear q449
                    try clear q45
                    try clear q450
                    try clear q451
                    try clear q453
                    try clear q456
                    try clear q46
                    try clear q464
                    try clear q465
                    try clear q466
                    try clear q467
                    try clear q469
                    try clear q5
                    try clear q50
                    obtain ⟨x15_5, rfl, HA, HK5, HO_3, HO_11, HO_14, BK437, HB⟩ := hrel
                    cases gk with
                    | zero => exact absurd HA.out (by simp [truantlaw20_SccOrder.l5])
                    | succ k5 =>
                     have H := HA.out
                     clear HA
                     simp only [truantlaw20_SccOrder.l5] at H
                     by_cases c92 : x15_5 < (t470.length : Int)
                     ·rw [if_pos c92] at H
                      have c92b0 : decide (x15_5 < (t470.length : Int)) = true := decide_eq_true c92
                      clear c92
                      by_cases c93 : 0 ≤ x15_5
                      ·rw [if_pos c93] at H
                       have c93b0 : decide (0 ≤ x15_5) = true := decide_eq_true c93
                       clear c93
                       replace H := Option.bind_eq_some_iff.mp H
                       obtain ⟨t474, A940, H⟩ := H
                       replace H : (if t474 = true then (truantlaw20_SccOrder.l5 k5 x3_1 x9_2 t461 x13_4 t470 (wrap64 (x15_5 + 1)) l0_0 l0_1 l0_2) else (none)) = some r := H
                       have A94 := Aside0.mk A940
                       clear A940
                       by_cases c95 : t474 = true
                       ·subst c95
                        have H1 : (truantlaw20_SccOrder.l5 k5 x3_1 x9_2 t461 x13_4 t470 (wrap64 (x15_5 + 1)) l0_0 l0_1 l0_2) = some r := by rw [if_pos rfl] at H; exact H
                        clear H
                        have H := H1
                        clear H1
                        have H' := Aside0.mk H
                        clear H
                        obtain ⟨Ao96, co96, eo96⟩ := Kd.R_slice HO_14.out
                        subst eo96
                        have p473 : 0 ≤ (x15_5 : Int) := of_decide_eq_true (by first | (with_reducible assumption) | assumption)
                        have q473 : x15_5 < (t470.length : Int) := of_decide_eq_true (by first | (with_reducible assumption) | assumption)
                        obtain ⟨ad473, e473, hx473_0⟩ := Kd.at_int (Kd.R_reads' HO_14.out).2.2 x15_5 p473 q473
                        cases e473
                        replace p473 := eq_true p473
                        replace q473 := eq_true q473
                        go_wp2_with (first | ((with_reducible refine gate_callee (f := 37) rfl ?_); refine goesL_ (some 165) rfl rfl Try.func37 (by kernel_rfl) rfl #[.slice (some ad469) t461.length co89, .int .i64 (rd t470 x15_5)] rfl (by (try simp only [List.map_toArray, List.map_cons, List.map_nil]); first | done | rfl | (simp only [List.length_drop, List.length_take]; rfl)) ?_; (with_reducible refine (truantlaw20_has.calls k5 _ _ t461 (rd t470 x15_5) true _ ?side1 ?side2 A94.out).mono ?_); (case side1 => repeat (first | exact (Kd.R_reads' HO_11.out).2.2 | (with_reducible refine Kd.C_alloc ?_ _) | (with_reducible refine Kd.C_drewN ?_ _) | (with_reducible refine Kd.C_drew ?_))); (case side2 => exact (Kd.R_reads' HO_11.out).2.1); rintro e w' ⟨rfl, ⟨nd, rfl⟩⟩; refine ⟨_, rfl, ?_⟩))
                        go_roundg k5
                        case measure => have := HK1.out; have := HK2.out; have := HK3.out; have := HK4.out; have := HK5.out; omega
                        case rel => exact ⟨(wrap64 (x15_5 + 1)), (by first | rfl | (simp; done) | (simp [*]; done)), H', ⟨by have := HK1.out; have := HK2.out; have := HK3.out; have := HK4.out; have := HK5.out; omega⟩, ⟨by (with_reducible repeat (first | apply Kd.R_alloc | apply Kd.R_drewN | apply Kd.R_drew)); exact HO_3.out⟩, ⟨by (with_reducible repeat (first | apply Kd.R_alloc | apply Kd.R_drewN | apply Kd.R_drew)); exact HO_11.out⟩, ⟨by (with_reducible repeat (first | apply Kd.R_alloc | apply Kd.R_drewN | apply Kd.R_drew)); exact HO_14.out⟩, ⟨by (with_reducible repeat (first | refine blk_drewN ?_ _ | refine blk_drew ?_ | refine blk_alloc ?_ _)); exact BK437.out⟩, ⟨by repeat (first | (with_reducible first | exact HB.out | apply below_alloc | apply pw_below_drewN | apply below_drew1 | refine below_set ?_ GE437.out) | exact HB.out)⟩⟩
                       ·replace c95 := Bool.eq_false_iff.mpr c95
                        subst c95
                        have H1 : (none) = some r := by rw [if_neg (show ¬ (false = true) by decide)] at H; exact H
                        clear H
                        have H := H1
                        clear H1
                        exact absurd H (by simp)
                      ·rw [if_neg c93] at H
                       exact absurd H (by simp)
                     ·rw [if_neg c92] at H
                      have c92b0 : decide (x15_5 < (t470.length : Int)) = false := decide_eq_false c92
                      clear c92
                      by_cases c97 : 0 ≤ x13_4
                      ·rw [if_pos c97] at H
                       have c97b0 : decide (0 ≤ x13_4) = true := decide_eq_true c97
                       clear c97
                       by_cases c98 : x13_4 < (t461.length : Int)
                       ·rw [if_pos c98] at H
                        have c98b0 : decide (x13_4 < (t461.length : Int)) = true := decide_eq_true c98
                        clear c98
                        by_cases c99 : 0 ≤ (rd t461 x13_4)
                        ·rw [if_pos c99] at H
                         have c99b0 : decide (0 ≤ (rd t461 x13_4)) = true := decide_eq_true c99
                         clear c99
                         by_cases c100 : (rd t461 x13_4) < (x3_1.length : Int)
                         ·rw [if_pos c100] at H
                          have c100b0 : decide ((rd t461 x13_4) < (x3_1.length : Int)) = true := decide_eq_true c100
                          clear c100
                          by_cases c101 : 0 ≤ x9_2
                          ·rw [if_pos c101] at H
                           have c101b0 : decide (0 ≤ x9_2) = true := decide_eq_true c101
                           clear c101
                           by_cases c102 : x9_2 < (x3_1.length : Int)
                           ·rw [if_pos c102] at H
                            have c102b0 : decide (x9_2 < (x3_1.length : Int)) = true := decide_eq_true c102
                            clear c102
                            replace H := Option.bind_eq_some_iff.mp H
                            obtain ⟨t478, A1030, H⟩ := H
                            replace H : (if (((rd x3_1 (rd t461 x13_4)) == (rd x3_1 x9_2)) != t478) = true then (none) else (truantlaw20_SccOrder.l4 k5 x3_1 x9_2 t461 (wrap64 (x13_4 + 1)) l0_0 l0_1 l0_2)) = some r := H
                            have A103 := Aside0.mk A1030
                            clear A1030
                            by_cases c104 : (((rd x3_1 (rd t461 x13_4)) == (rd x3_1 x9_2)) != t478) = true
                            ·rw [if_pos c104] at H
                             exact absurd H (by simp)
                            ·rw [if_neg c104] at H
                             have c104b0 : (((rd x3_1 (rd t461 x13_4)) == (rd x3_1 x9_2)) != t478) = false := by simpa using c104
                             (try (have c104b1 : decide (((rd x3_1 (rd t461 x13_4)) == (rd x3_1 x9_2)) = t478) = true := by simpa using c104))
                             (try (have c104b2 : (((rd x3_1 (rd t461 x13_4)) == (rd x3_1 x9_2)) == t478) = true := by simpa using c104))
                             clear c104
                             have H' := Aside0.mk H
                             clear H
                             obtain ⟨Ao105, co105, eo105⟩ := Kd.R_slice HO_14.out
                             subst eo105
                             try go_wp2
                             have n0_ := Aside0.mk (Kd.R_drew HO_3.out)
                             have n1_ := Aside0.mk (Kd.R_drew HO_11.out)
                             have n2_ := Aside0.mk (Kd.R_drew HO_14.out)
                             have n3_ := Aside0.mk (blk_drew BK437.out)
                             have n4_ := Aside0.mk (below_drew1 HB.out)
                             clear HO_3
                             clear HO_11
                             clear HO_14
                             clear BK437
                             clear HB
                             have HO_3 := n0_
                             have HO_11 := n1_
                             have HO_14 := n2_
                             have BK437 := n3_
                             have HB := n4_
                             clear n0_ n1_ n2_ n3_ n4_
                             have p475 : 0 ≤ (x13_4 : Int) := of_decide_eq_true (by first | (with_reducible assumption) | assumption)
                             have q475 : x13_4 < (t461.length : Int) := of_decide_eq_true (by first | (with_reducible assumption) | assumption)
                             obtain ⟨ad475, e475, hx475_0⟩ := Kd.at_int (Kd.R_reads' HO_11.out).2.2 x13_4 p475 q475
                             obtain rfl : ad469 = ad475 := (by injection e475)
                             replace p475 := eq_true p475
                             replace q475 := eq_true q475
                             have p476 : 0 ≤ ((rd t461 x13_4) : Int) := of_decide_eq_true (by first | (with_reducible assumption) | assumption)
                             have q476 : (rd t461 x13_4) < (x3_1.length : Int) := of_decide_eq_true (by first | (with_reducible assumption) | assumption)
                             obtain ⟨ad476, e476, hx476_0⟩ := Kd.at_int (Kd.R_reads' HO_3.out).2.2 (rd t461 x13_4) p476 q476
                             cases e476
                             replace p476 := eq_true p476
                             replace q476 := eq_true q476
                             have p477 : 0 ≤ (x9_2 : Int) := of_decide_eq_true (by first | (with_reducible assumption) | assumption)
                             have q477 : x9_2 < (x3_1.length : Int) := of_decide_eq_true (by first | (with_reducible assumption) | assumption)
                             obtain ⟨ad477, e477, hx477_0⟩ := Kd.at_int (Kd.R_reads' HO_3.out).2.2 x9_2 p477 q477
                             obtain rfl : ad476 = ad477 := (by injection e477)
                             replace p477 := eq_true p477
                             replace q477 := eq_true q477
                             refine start_ (n := 16) (S := fun w' => w'.cell? (ad469.add (x13_4).toNat) = some (.int .i64 (rd t461 x13_4)) ∧ w'.cell? (ad476.add ((rd t461 x13_4)).toNat) = some (.int .i64 (rd x3_1 (rd t461 x13_4))) ∧ w'.cell? (ad476.add (x9_2).toNat) = some (.int .i64 (rd x3_1 x9_2))) (ds := []) #[false, false, false, false, false, false, false, false, false, false, false, false, false, false, false, false] (by kernel_rfl) rfl rfl ⟨hx475_0, hx476_0, hx477_0⟩ (fun hHeld => ?_); refine with_tabW truantlaw20_SccOrder.tab42 truantlaw20_SccOrder.bits42 (fun HT_ HW_ => ?_)
                             generalize wr.drew = w106 at HO_3 HO_11 HO_14 BK437 HB hx475_0 hx476_0 hx477_0 hHeld ⊢
                             refine pure_ (i := 0) (N := some 167) (v := ?_) (a' := ?_) #[true, false, false, false, false, false, false, false, false, false, false, false, false, false, false, false] rfl rfl (any_of HT_.out (by kernel_rfl)) (fun _ _ _ h => h) (Or.inl ⟨by rfl, ?_⟩) ?_ ?_
                             rotate_left
                             ·intro w'
                              go_simp
                              with_reducible rfl
                             rotate_left
                             ·simp only [Act.put, List.setIfInBounds_toArray, List.set_cons_zero, List.set_cons_succ, i64_w, i32_w]
                              rfl
                             refine pure_ (i := 1) (N := some 168) (v := ?_) (a' := ?_) #[true, true, false, false, false, false, false, false, false, false, false, false, false, false, false, false] rfl rfl (any_of HT_.out (by kernel_rfl)) (fun _ _ _ h => h) (Or.inl ⟨by rfl, ?_⟩) ?_ ?_
                             rotate_left
                             ·intro w'
                              go_simp
                              with_reducible rfl
                             rotate_left
                             ·simp only [Act.put, List.setIfInBounds_toArray, List.set_cons_zero, List.set_cons_succ, i64_w, i32_w]
                              rfl
                             refine pure_ (i := 2) (N := some 169) (v := ?_) (a' := ?_) #[true, true, true, false, false, false, false, false, false, false, false, false, false, false, false, false] rfl rfl (any_of HT_.out (by kernel_rfl)) (fun _ _ _ h => h) (Or.inl ⟨by rfl, ?_⟩) ?_ ?_
                             rotate_left
                             ·intro w'
                              go_simp
                              with_reducible rfl
                             rotate_left
                             ·simp only [Act.put, List.setIfInBounds_toArray, List.set_cons_zero, List.set_cons_succ, i64_w, i32_w]
                              rfl
                             refine pure_ (i := 3) (N := some 170) (v := ?_) (a' := ?_) #[true, true, true, true, false, false, false, false, false, false, false, false, false, false, false, false] rfl rfl (any_of HT_.out (by kernel_rfl)) (fun _ _ _ h => h) (Or.inl ⟨by rfl, ?_⟩) ?_ ?_
                             rotate_left
                             ·intro w'
                              go_simp
                              with_reducible rfl
                             rotate_left
                             ·simp only [Act.put, List.setIfInBounds_toArray, List.set_cons_zero, List.set_cons_succ, i64_w, i32_w]
                              rfl
                             refine pure_ (i := 7) (N := some 174) (v := ?_) (a' := ?_) #[true, true, true, true, false, false, false, true, false, false, false, false, false, false, false, false] rfl rfl (any_of HT_.out (by kernel_rfl)) (fun _ _ _ h => h) (Or.inl ⟨by rfl, ?_⟩) ?_ ?_
                             rotate_left
                             ·intro w'
                              go_simp
                              with_reducible rfl
                             rotate_left
                             ·simp only [Act.put, List.setIfInBounds_toArray, List.set_cons_zero, List.set_cons_succ, i64_w, i32_w]
                              rfl
                             refine pure_ (i := 8) (N := some 175) (v := ?_) (a' := ?_) #[true, true, true, true, false, false, false, true, true, false, false, false, false, false, false, false] rfl rfl (any_of HT_.out (by kernel_rfl)) (fun _ _ _ h => h) (Or.inl ⟨by rfl, ?_⟩) ?_ ?_
                             rotate_left
                             ·intro w'
                              go_simp
                              with_reducible rfl
                             rotate_left
                             ·simp only [Act.put, List.setIfInBounds_toArray, List.set_cons_zero, List.set_cons_succ, i64_w, i32_w]
                              rfl
                             refine pure_ (i := 9) (N := some 176) (v := ?_) (a' := ?_) #[true, true, true, true, false, false, false, true, true, true, false, false, false, false, false, false] rfl rfl (any_of HT_.out (by kernel_rfl)) (fun _ _ _ h => h) (Or.inl ⟨by rfl, ?_⟩) ?_ ?_
                             rotate_left
                             ·intro w'
                              go_simp
                              with_reducible rfl
                             rotate_left
                             ·simp only [Act.put, List.setIfInBounds_toArray, List.set_cons_zero, List.set_cons_succ, i64_w, i32_w]
                              rfl
                             refine pure_ (i := 12) (N := some 179) (v := ?_) (a' := ?_) #[true, true, true, true, false, false, false, true, true, true, false, false, true, false, false, false] rfl rfl (any_of HT_.out (by kernel_rfl)) (fun _ _ _ h => h) (Or.inl ⟨by rfl, ?_⟩) ?_ ?_
                             rotate_left
                             ·intro w'
                              go_simp
                              with_reducible rfl
                             rotate_left
                             ·simp only [Act.put, List.setIfInBounds_toArray, List.set_cons_zero, List.set_cons_succ, i64_w, i32_w]
                              rfl
                             refine pure_ (i := 13) (N := some 180) (v := ?_) (a' := ?_) #[true, true, true, true, false, false, false, true, true, true, false, false, true, true, false, false] rfl rfl (any_of HT_.out (by kernel_rfl)) (fun _ _ _ h => h) (Or.inl ⟨by rfl, ?_⟩) ?_ ?_
                             rotate_left
                             ·intro w'
                              go_simp
                              with_reducible rfl
                             rotate_left
                             ·simp only [Act.put, List.setIfInBounds_toArray, List.set_cons_zero, List.set_cons_succ, i64_w, i32_w]
                              rfl
                             refine take_ (i := 4) (N := some 171) (v := ?_) (a' := ?_) #[true, true, true, true, true, false, false, true, true, true, false, false, true, true, false, false] rfl rfl (take_ofW HT_.out HW_.out (by kernel_rfl)) (fun _ _ _ h => h) (Or.inl ⟨by rfl, ?_⟩) hHeld ?_ ?_
                             rotate_left
                             ·rintro w' ⟨s0, s1, s2⟩
                              go_simp
                              with_reducible rfl
                             rotate_left
                             ·simp only [Act.put, List.setIfInBounds_toArray, List.set_cons_zero, List.set_cons_succ, i64_w, i32_w]
                              rfl
                             refine pure_ (i := 5) (N := some 172) (v := ?_) (a' := ?_) #[true, true, true, true, true, true, false, true, true, true, false, false, true, true, false, false] rfl rfl (any_of HT_.out (by kernel_rfl)) (fun _ _ _ h => h) (Or.inl ⟨by rfl, ?_⟩) ?_ ?_
                             rotate_left
                             ·intro w'
                              go_simp
                              with_reducible rfl
                             rotate_left
                             ·simp only [Act.put, List.setIfInBounds_toArray, List.set_cons_zero, List.set_cons_succ, i64_w, i32_w]
                              rfl
                             refine take_ (i := 6) (N := some 173) (v := ?_) (a' := ?_) #[true, true, true, true, true, true, true, true, true, true, false, false, true, true, false, false] rfl rfl (take_ofW HT_.out HW_.out (by kernel_rfl)) (fun _ _ _ h => h) (Or.inl ⟨by rfl, ?_⟩) hHeld ?_ ?_
                             rotate_left
                             ·rintro w' ⟨s0, s1, s2⟩
                              go_simp
                              with_reducible rfl
                             rotate_left
                             ·simp only [Act.put, List.setIfInBounds_toArray, List.set_cons_zero, List.set_cons_succ, i64_w, i32_w]
                              rfl
                             refine take_ (i := 10) (N := some 177) (v := ?_) (a' := ?_) #[true, true, true, true, true, true, true, true, true, true, true, false, true, true, false, false] rfl rfl (take_ofW HT_.out HW_.out (by kernel_rfl)) (fun _ _ _ h => h) (Or.inl ⟨by rfl, ?_⟩) hHeld ?_ ?_
                             rotate_left
                             ·rintro w' ⟨s0, s1, s2⟩
                              go_simp
                              with_reducible rfl
                             rotate_left
                             ·simp only [Act.put, List.setIfInBounds_toArray, List.set_cons_zero, List.set_cons_succ, i64_w, i32_w]
                              rfl
                             refine pure_ (i := 11) (N := some 178) (v := ?_) (a' := ?_) #[true, true, true, true, true, true, true, true, true, true, true, true, true, true, false, false] rfl rfl (any_of HT_.out (by kernel_rfl)) (fun _ _ _ h => h) (Or.inl ⟨by rfl, ?_⟩) ?_ ?_
                             rotate_left
                             ·intro w'
                              go_simp
                              with_reducible rfl
                             rotate_left
                             ·simp only [Act.put, List.setIfInBounds_toArray, List.set_cons_zero, List.set_cons_succ, i64_w, i32_w]
                              rfl
                             refine one_ (i := 14) (N := some 181) #[true, true, true, true, true, true, true, true, true, true, true, true, true, true, true, false] rfl rfl (one_of HT_.out (by kernel_rfl)) (by decide) (fun K hK => ?_)
                             refine goes_ Try.func37 (by kernel_rfl) rfl #[.slice Ao105 t470.length co105, .int .i64 x9_2] (by rfl) rfl rfl (by (try simp only [List.map_toArray, List.map_cons, List.map_nil]); first | done | rfl | (simp only [List.length_drop, List.length_take]; rfl)) ?_
                             with_reducible refine (truantlaw20_has.calls k5 _ _ t470 x9_2 t478 _ ?side1 ?side2 A103.out).mono ?_
                             (case side1 => repeat (first | exact (Kd.R_reads' HO_14.out).2.2 | (with_reducible refine Kd.C_alloc ?_ _) | (with_reducible refine Kd.C_drewN ?_ _) | (with_reducible refine Kd.C_drew ?_)))
                             (case side2 => exact (Kd.R_reads' HO_14.out).2.1)
                             rintro e w' ⟨rfl, ⟨nd, rfl⟩⟩
                             refine ⟨_, rfl, ?_⟩
                             refine hK.out _ _ ⟨hHeld.1, hHeld.2.1, hHeld.2.2⟩ (fun hHeld => ?_)
                             clear hK K
                             refine norm_ (a' := ?_) ?_ ?_
                             rotate_left
                             ·show Act.put _ (some 181) _ = _
                              simp only [Act.put, List.setIfInBounds_toArray, List.set_cons_zero, List.set_cons_succ, i64_w, i32_w]
                              rfl
                             refine pure_ (i := 15) (N := some 182) (v := ?_) (a' := ?_) #[true, true, true, true, true, true, true, true, true, true, true, true, true, true, true, true] rfl rfl (any_of HT_.out (by kernel_rfl)) (fun _ _ _ h => h) (Or.inl ⟨by rfl, ?_⟩) ?_ ?_
                             rotate_left
                             ·intro w'
                              go_simp
                              with_reducible rfl
                             rotate_left
                             ·simp only [Act.put, List.setIfInBounds_toArray, List.set_cons_zero, List.set_cons_succ, i64_w, i32_w]
                              rfl
                             refine done_ (done_of HT_.out (by kernel_rfl)) ?_
                             try go_wp2
                             go_roundg k5
                             case measure => have := HK1.out; have := HK2.out; have := HK3.out; have := HK4.out; have := HK5.out; omega
                             case rel => exact ⟨(wrap64 (x13_4 + 1)), (by first | rfl | (simp; done) | (simp [*]; done)), H', ⟨by have := HK1.out; have := HK2.out; have := HK3.out; have := HK4.out; have := HK5.out; omega⟩, ⟨by (with_reducible repeat (first | apply Kd.R_alloc | apply Kd.R_drewN | apply Kd.R_drew)); exact Kd.R_mono HO_3.out (fun _ hk => hk.1)⟩, ⟨by (with_reducible repeat (first | apply Kd.R_alloc | apply Kd.R_drewN | apply Kd.R_drew)); exact Kd.R_mono HO_11.out (fun _ hk => hk.1)⟩, ⟨by (with_reducible repeat (first | refine blk_drewN ?_ _ | refine blk_drew ?_ | refine blk_alloc ?_ _)); exact BK437.out⟩, ⟨by repeat (first | (with_reducible first | exact HB.out | apply below_alloc | apply pw_below_drewN | apply below_drew1 | refine below_set ?_ GE437.out) | exact HB.out)⟩⟩
                           ·rw [if_neg c102] at H
                            exact absurd H (by simp)
                          ·rw [if_neg c101] at H
                           exact absurd H (by simp)
                         ·rw [if_neg c100] at H
                          exact absurd H (by simp)
                        ·rw [if_neg c99] at H
                         exact absurd H (by simp)
                       ·rw [if_neg c98] at H
                        exact absurd H (by simp)
                      ·rw [if_neg c97] at H
                       exact absurd H (by simp)
                  ·rw [if_neg c87] at H
                   exact absurd H (by simp)
                 ·rw [if_neg c86] at H
                  have c86b0 : decide (x13_4 < (t461.length : Int)) = false := decide_eq_false c86
                  clear c86
                  have H' := Aside0.mk H
                  clear H
                  obtain ⟨Ao107, co107, eo107⟩ := Kd.R_slice HO_11.out
                  subst eo107
                  go_wp2
                  go_roundg k4
                  case measure => have := HK1.out; have := HK2.out; have := HK3.out; have := HK4.out; omega
                  case rel => exact ⟨(wrap64 (x9_2 + 1)), (by first | rfl | (simp; done) | (simp [*]; done)), H', ⟨by have := HK1.out; have := HK2.out; have := HK3.out; have := HK4.out; omega⟩, ⟨by (with_reducible repeat (first | apply Kd.R_alloc | apply Kd.R_drewN | apply Kd.R_drew)); exact Kd.R_mono HO_3.out (fun _ hk => trivial)⟩, ⟨by (with_reducible repeat (first | refine blk_drewN ?_ _ | refine blk_drew ?_ | refine blk_alloc ?_ _)); exact BK437.out⟩, ⟨by repeat (first | (with_reducible first | exact HB.out | apply below_alloc | apply pw_below_drewN | apply below_drew1 | refine below_set ?_ GE437.out) | exact HB.out)⟩⟩
           ·rw [if_neg c65] at H
            have c65b0 : decide (x9_2 < (x3_1.length : Int)) = false := decide_eq_false c65
            clear c65
            obtain rfl := Option.some.inj H
            obtain ⟨Ao108, co108, eo108⟩ := Kd.R_slice HO_3.out
            subst eo108
            go_wp2
            go_ret
            exact ⟨by first | rfl | (simp [errW_none, errW_some] <;> rfl) | (simp [*, errW_none, errW_some] <;> rfl), by repeat (first | (with_reducible first | exact HB.out | apply below_alloc | apply pw_below_drewN | apply below_drew1 | refine below_set ?_ GE437.out) | exact HB.out)⟩
        ·rw [if_neg c62] at H
         exact absurd H (by simp)
    ·rw [if_neg c11] at H
     exact absurd H (by simp)
   ·rw [if_neg c10] at H
    exact absurd H (by simp)
 ·replace c3 := Bool.eq_false_iff.mpr c3
  subst c3
  have H1 : (none) = some r := by rw [if_neg (show ¬ (false = true) by decide)] at H; exact H
  clear H
  have H := H1
  clear H1
  exact absurd H (by simp)
end Go.Proofs.Ytclhjalgflebfaa.Q
/- How an argument of a type reads: out of the form's reading comes the value that the printed walks take. -/
namespace Go.Proofs.Ytclhjalgflebfaa.Q
open Go.RowKit Go.Proofs.YtclhjalgflebfaaW.PrintWords Go.Proofs.YtclhjalgflebfaaW.PrintLast Go.Proofs.YtclhjalgflebfaaW.PrintMore
set_option linter.unusedVariables false
set_option linter.unusedSimpArgs false
/-- What reads at type t reads as a value of kind K, of which Q holds. -/
structure Opens {α : Type} (P : Program) (t : TypeId) (K : Kd α) (Q : α → Prop) : Prop where
 out : ∀ {H : Type} {enc : TypeId × Value → H} {W : World} {base : Nat} {sp : Nat → Bool} {held : Bool} {fuel : Nat} {cs : List Value} {x : DataW H × List MemPlace},
  (∀ n ∈ x.1.weights P t, n ≤ reachBytes) → DataW.trod enc P W base sp held fuel t cs = some x → ∃ y, K.K W y cs ∧ Q y
section
variable {P : Program}
theorem opens_string {t : TypeId} (ht : P.underlying t = some .string) : Opens P t Kd.string (fun s => s.size ≤ 140737488351232) := by
 constructor
 intro H enc W base sp held fuel cs x hw h
 obtain ⟨s, rfl, rfl, hs⟩ : ∃ s : ByteArray, cs = [.string s] ∧ x = (.lit (.string s.data.toList), []) ∧ s.size ≤ maxLen := by
  cases fuel with
  | zero => simp [DataW.trod] at h
  | succ n =>
   unfold DataW.trod at h
   rw [ht] at h
   split at h <;> simp_all
 refine ⟨s, rfl, ?_⟩
 have := hw s.data.toList.length (by simp [DataW.weights])
 rw [Array.length_toList] at this
 exact this
theorem opens_int {t : TypeId} {q : IntKind} (ht : P.underlying t = some (.int q)) : Opens P t (Kd.int q) (fun n => (Lit.int q n).wf = true) := by
 constructor
 intro H enc W base sp held fuel cs x hw h
 obtain ⟨n, rfl, hs⟩ : ∃ n : Int, cs = [.int q n] ∧ (Lit.int q n).wf = true := by
  cases fuel with
  | zero => simp [DataW.trod] at h
  | succ n =>
   unfold DataW.trod at h
   rw [ht] at h
   split at h <;> simp_all
 exact ⟨n, rfl, hs⟩
theorem weights_all {H : Type} {e : TypeId} : ∀ {ds : List (DataW H)} {d : DataW H}, d ∈ ds → ∀ n ∈ d.weights P e, n ∈ DataW.weightsAll P e ds
 | d0 :: ds, d, hd, n, hn => by
  simp only [DataW.weightsAll, List.mem_append]
  rcases List.mem_cons.mp hd with rfl | h
  ·exact .inl hn
  ·exact .inr (weights_all h n hn)
theorem choose_list {α : Type} {p : Nat → α → Prop} : ∀ {n : Nat}, (∀ i, i < n → ∃ y, p i y) → ∃ ys : List α, ys.length = n ∧ ∀ i y, ys[i]? = some y → p i y
 | 0, _ => ⟨[], rfl, fun i y h => by simp at h⟩
 | n + 1, h => by
  obtain ⟨ys, hl, hy⟩ := choose_list (n := n) (fun i hi => h i (by omega))
  obtain ⟨y, hp⟩ := h n (by omega)
  refine ⟨ys ++ [y], by simp [hl], fun i z hz => ?_⟩
  by_cases hi : i < n
  ·rw [List.getElem?_append_left (by omega)] at hz
   exact hy i z hz
  ·have := (List.getElem?_eq_some_iff.mp hz).1
   simp at this
   have e : i = n := by omega
   subst e
   rw [List.getElem?_append_right (by omega)] at hz
   simp [hl] at hz
   subst hz
   exact hp
theorem opens_slice {α : Type} {t e : TypeId} {K : Kd α} {Q : α → Prop} (he : Opens P e K Q) (ht : P.underlying t = some (.slice e)) (hc : P.cellsOf e = K.sz) (bytes : Nat) (hb : P.bytesOf e = bytes) :
  Opens P t (Kd.slice e K) (fun l => l.length * bytes ≤ 140737488351232 ∧ ∀ x ∈ l, Q x) := by
 constructor
 intro H enc W base sp held fuel cs x hw h
 rcases Deep.open_slice ht h with ⟨rfl, rfl⟩ | ⟨a, len, cap, m, n, D, Pl, rfl, _, hl, hm, hmm, rfl, hel⟩
 ·exact ⟨[], ⟨none, 0, rfl, Nat.le_refl _, Kd.C_nil K W⟩, by simp, by simp⟩
 ·have hlm : len ≤ m := by rw [hmm]; split <;> omega
  have hw' : ∀ i, i < len → ∀ k ∈ (D i).weights P e, k ≤ reachBytes := fun i hi k hk => hw k (by
   simp only [DataW.weights, ht, List.mem_cons, List.mem_append]
   exact .inr (.inl (weights_all (List.mem_map.mpr ⟨i, by simpa using hi, rfl⟩) k hk)))
  obtain ⟨ys, hys, hY⟩ := choose_list (n := len) (p := fun i y => (∃ c, c.length = K.sz ∧ K.K W y c ∧ ∀ j u, c[j]? = some u → W.cell? (a.add (i * K.sz + j)) = some u) ∧ Q y) (fun i hi => by
   obtain ⟨c, h1, h2⟩ := hel i (by omega)
   obtain ⟨y, hy, hq⟩ := he.out (hw' i hi) h2
   obtain ⟨_, h3, h4⟩ := World.cells?_some h1
   rw [hc] at h3 h4
   refine ⟨y, ⟨c, h3, hy, fun j u hu => ?_⟩, hq⟩
   have hj : j < K.sz := by
    have := (List.getElem?_eq_some_iff.mp hu).1
    omega
   have h5 := h4 j hj
   rw [Addr.add_add] at h5
   rw [h5, hu])
  have hlen : len ≤ maxLen := by omega
  refine ⟨ys, ⟨some a, cap, by rw [hys], by omega, rfl, by rw [hys]; unfold maxLen at hlen; omega, fun _ => ⟨a, rfl, fun j p hj => (hY j p hj).1⟩⟩, ?_, ?_⟩
  ·have := hw ((((List.range len).map D).length + ((List.range (m - len)).map fun j => D (len + j)).length) * P.bytesOf e) (by simp [DataW.weights, ht])
   rw [hb] at this
   simp only [List.length_map, List.length_range] at this
   have h2 : len * bytes ≤ (len + (m - len)) * bytes := Nat.mul_le_mul_right _ (by omega)
   rw [hys]
   unfold reachBytes at this
   omega
  ·intro x hx
   obtain ⟨i, hi, rfl⟩ := List.mem_iff_getElem.mp hx
   exact (hY i _ (List.getElem?_eq_getElem hi)).2
/-- The fields from one on. -/
structure OpensF {α : Type} (P : Program) (fs : List Field) (off : Nat) (K : Kd α) (Q : α → Prop) : Prop where
 out : ∀ {H : Type} {enc : TypeId × Value → H} {W : World} {base : Nat} {sp : Nat → Bool} {held : Bool} {fuel : Nat} {cs : List Value} {xs : List (DataW H × List MemPlace)},
  cs.length = off + K.sz → (∀ n ∈ DataW.weightsEach P (fs.map (·.type)) (xs.map (·.1)), n ≤ reachBytes) → (fs.mapM fun f => DataW.trod enc P W base sp held fuel f.type ((cs.drop f.offset).take (P.cellsOf f.type))) = some xs → ∃ y, K.K W y (cs.drop off) ∧ Q y
theorem opensF_last {α : Type} {f : Field} {off t : Nat} {K : Kd α} {Q : α → Prop} (h : Opens P t K Q) (h0 : f.type = t) (hc : P.cellsOf t = K.sz) (ho : f.offset = off) : OpensF P [f] off K Q := by
 constructor
 intro H enc W base sp held fuel cs xs hl hw hm
 subst h0
 simp only [List.mapM_cons, List.mapM_nil, Option.pure_def, Option.bind_eq_bind, Option.bind_some] at hm
 obtain ⟨x, hx, hm⟩ := Option.bind_eq_some_iff.mp hm
 obtain rfl := Option.some.inj hm
 rw [hc, ho, List.take_of_length_le (by rw [List.length_drop]; omega)] at hx
 exact h.out (fun n hn => hw n (by simp [DataW.weightsEach, hn])) hx
theorem opensF_cons {α β : Type} {f : Field} {fs : List Field} {off t : Nat} {K : Kd α} {K1 : Kd β} {Q : α → Prop} {Q1 : β → Prop} (h : Opens P t K Q) (h0 : f.type = t) (hc : P.cellsOf t = K.sz) (ho : f.offset = off) (h1 : OpensF P fs (off + K.sz) K1 Q1) :
  OpensF P (f :: fs) off (Kd.pair K K1) (fun p => Q p.1 ∧ Q1 p.2) := by
 constructor
 intro H enc W base sp held fuel cs xs hl hw hm
 subst h0
 have hl : cs.length = off + (K.sz + K1.sz) := hl
 rw [List.mapM_cons] at hm
 simp only [Option.pure_def, Option.bind_eq_bind] at hm
 obtain ⟨x, hx, hm⟩ := Option.bind_eq_some_iff.mp hm
 obtain ⟨xs', hxs, hm⟩ := Option.bind_eq_some_iff.mp hm
 obtain rfl := Option.some.inj hm
 rw [hc, ho] at hx
 obtain ⟨y, hy, hq⟩ := h.out (fun n hn => hw n (by simp only [List.map_cons, DataW.weightsEach, List.mem_append]; exact .inl hn)) hx
 obtain ⟨z, hz, hq1⟩ := h1.out (by omega) (fun n hn => hw n (by simp only [List.map_cons, DataW.weightsEach, List.mem_append]; exact .inr hn)) hxs
 refine ⟨(y, z), ⟨(cs.drop off).take K.sz, cs.drop (off + K.sz), ?_, hy, hz⟩, hq, hq1⟩
 rw [← List.drop_drop, List.take_append_drop]
theorem opens_struct {α β : Type} {t : TypeId} {fs : Array Field} {K : Kd α} {Q : α → Prop} (ht : P.underlying t = some (.struct fs)) (h : OpensF P fs.toList 0 K Q) (hc : P.cellsOf t = K.sz) (g : β → α) (g' : α → β) (hg : ∀ y, g (g' y) = y) : Opens P t (Kd.iso K g) (fun x => Q (g x)) := by
 constructor
 intro H enc W base sp held fuel cs x hw hm
 cases fuel with
 | zero => simp [DataW.trod] at hm
 | succ n =>
  unfold DataW.trod at hm
  rw [ht] at hm
  simp only at hm
  split at hm
  ·rename_i hl
   obtain ⟨xs, hxs, rfl⟩ := Option.map_eq_some_iff.mp hm
   obtain ⟨y, hy, hq⟩ := h.out (cs := cs) (xs := xs) (by rw [hl, hc]; omega) (fun n hn => hw n (by simp only [DataW.weights, ht]; exact hn)) hxs
   exact ⟨g' y, by show K.K W (g (g' y)) cs; rw [hg]; simpa using hy, by show Q (g (g' y)); rw [hg]; exact hq⟩
  ·cases hm
theorem opens_array2 {α β : Type} {t e : TypeId} {K : Kd α} {Q : α → Prop} {k : Kd β} {WF : β → Prop} (mk : α → α → β) (g : β → α × α) (he : Opens P e K Q) (ht : P.underlying t = some (.array 2 e)) (hsz : K.sz = 1) (hce : P.cellsOf e = 1) (hct : P.cellsOf t = 2) (hk : k = Kd.iso (Kd.pair K K) g) (hg : ∀ x y, g (mk x y) = (x, y)) (hQ : ∀ x y, Q x → Q y → WF (mk x y)) : Opens P t k WF := by
 subst hk
 constructor
 intro H enc W base sp held fuel cs x hw hm
 obtain ⟨xs, m, rfl, rfl, hl, hn, hi⟩ := DataW.trod_array ht hm
 rw [hct] at hl
 have hwx : ∀ d, d ∈ xs.map (·.1) → ∀ n ∈ d.weights P e, n ≤ reachBytes := fun d hd n hn => hw n (by simp only [DataW.weights, ht]; exact weights_all hd n hn)
 obtain ⟨d0, d1, rfl⟩ : ∃ d0 d1, xs = [d0, d1] := by
  match xs, hn with
  | [a, b], _ => exact ⟨a, b, rfl⟩
 obtain ⟨c0, c1, rfl⟩ : ∃ c0 c1, cs = [c0, c1] := by
  match cs, hl with
  | [a, b], _ => exact ⟨a, b, rfl⟩
 have h0 := hi 0 (by omega)
 have h1 := hi 1 (by omega)
 rw [hce] at h0 h1
 obtain ⟨y0, hy0, q0⟩ := he.out (hwx d0.1 (by simp)) (show _ = some d0 from h0)
 obtain ⟨y1, hy1, q1⟩ := he.out (hwx d1.1 (by simp)) (show _ = some d1 from h1)
 refine ⟨mk y0 y1, ?_, hQ _ _ q0 q1⟩
 show (Kd.pair K K).K W (g (mk y0 y1)) [c0, c1]
 rw [hg]
 exact ⟨[c0], [c1], rfl, hy0, hy1⟩
theorem opens_struct' {α β : Type} {t : TypeId} {fs : Array Field} {K : Kd α} {Q : α → Prop} {k : Kd β} {WF : β → Prop} (g' : α → β) (g : β → α) (ht : P.underlying t = some (.struct fs)) (h : OpensF P fs.toList 0 K Q) (hc : P.cellsOf t = K.sz) (hk : k = Kd.iso K g) (hg : ∀ y, g (g' y) = y) (hQ : ∀ x, Q (g x) → WF x) : Opens P t k WF := by
 subst hk
 constructor
 intro H enc W base sp held fuel cs x hw hm
 obtain ⟨y, h1, h2⟩ := (opens_struct ht h hc g g' hg).out hw hm
 exact ⟨y, h1, hQ y h2⟩
end
def WF152 (x : S152) : Prop := ((fun s : ByteArray => s.size ≤ 140737488351232) x.f0) ∧ ((fun s : ByteArray => s.size ≤ 140737488351232) x.f1)
theorem opens152 : Opens Try.prog 152 k152 WF152 :=
 opens_struct' (fun p : (ByteArray) × (ByteArray) => (⟨p.1, p.2⟩ : S152)) (fun x : S152 => (x.f0, x.f1)) Try.underlying152 (opensF_cons (opens_string Try.underlying9) rfl (by kernel_rfl) rfl (opensF_last (opens_string Try.underlying9) rfl (by kernel_rfl) rfl)) (by kernel_rfl) rfl (fun _ => rfl) (fun _ h => h)
def WF150 (x : S150) : Prop := ((fun s : ByteArray => s.size ≤ 140737488351232) x.f0) ∧ ((fun l : List (S152) => l.length * 32 ≤ 140737488351232 ∧ ∀ x ∈ l, WF152 x) x.f1)
theorem opens150 : Opens Try.prog 150 k150 WF150 :=
 opens_struct' (fun p : (ByteArray) × (List (S152)) => (⟨p.1, p.2⟩ : S150)) (fun x : S150 => (x.f0, x.f1)) Try.underlying150 (opensF_cons (opens_string Try.underlying9) rfl (by kernel_rfl) rfl (opensF_last (opens_slice opens152 Try.underlying45 (by kernel_rfl) 32 (by kernel_rfl)) rfl (by kernel_rfl) rfl)) (by kernel_rfl) rfl (fun _ => rfl) (fun _ h => h)
def WF58 (x : S58) : Prop := ((fun n : Int => (Lit.int .i64 n).wf = true) x.f0) ∧ ((fun s : ByteArray => s.size ≤ 140737488351232) x.f1) ∧ ((fun l : List Int => l.length * 8 ≤ 140737488351232 ∧ ∀ x ∈ l, (fun n : Int => (Lit.int .i64 n).wf = true) x) x.f2) ∧ ((fun n : Int => (Lit.int .i64 n).wf = true) x.f3) ∧ ((fun s : ByteArray => s.size ≤ 140737488351232) x.f4)
theorem opens58 : Opens Try.prog 58 k58 WF58 :=
 opens_struct' (fun p : (Int) × (ByteArray) × (List Int) × (Int) × (ByteArray) => (⟨p.1, p.2.1, p.2.2.1, p.2.2.2.1, p.2.2.2.2⟩ : S58)) (fun x : S58 => (x.f0, x.f1, x.f2, x.f3, x.f4)) Try.underlying58 (opensF_cons (opens_int Try.underlying3) rfl (by kernel_rfl) rfl (opensF_cons (opens_string Try.underlying9) rfl (by kernel_rfl) rfl (opensF_cons (opens_slice (opens_int Try.underlying3) Try.underlying34 (by kernel_rfl) 8 (by kernel_rfl)) rfl (by kernel_rfl) rfl (opensF_cons (opens_int Try.underlying3) rfl (by kernel_rfl) rfl (opensF_last (opens_string Try.underlying9) rfl (by kernel_rfl) rfl))))) (by kernel_rfl) rfl (fun _ => rfl) (fun _ h => h)
def WF38 (x : S38) : Prop := ((fun n : Int => (Lit.int .i64 n).wf = true) x.f0) ∧ ((fun n : Int => (Lit.int .i64 n).wf = true) x.f1)
theorem opens38 : Opens Try.prog 38 k38 WF38 :=
 opens_array2 (fun x y => (⟨x, y⟩ : S38)) (fun x : S38 => (x.f0, x.f1)) (opens_int Try.underlying3) Try.underlying38 rfl (by kernel_rfl) (by kernel_rfl) rfl (fun _ _ => rfl) (fun _ _ hx hy => ⟨hx, hy⟩)
def WF40 (x : S40) : Prop := ((fun l : List Int => l.length * 8 ≤ 140737488351232 ∧ ∀ x ∈ l, (fun n : Int => (Lit.int .i64 n).wf = true) x) x.f0) ∧ ((fun n : Int => (Lit.int .i64 n).wf = true) x.f1) ∧ ((fun n : Int => (Lit.int .i64 n).wf = true) x.f2) ∧ (WF38 x.f3)
theorem opens40 : Opens Try.prog 40 k40 WF40 :=
 opens_struct' (fun p : (List Int) × (Int) × (Int) × (S38) => (⟨p.1, p.2.1, p.2.2.1, p.2.2.2⟩ : S40)) (fun x : S40 => (x.f0, x.f1, x.f2, x.f3)) Try.underlying40 (opensF_cons (opens_slice (opens_int Try.underlying3) Try.underlying34 (by kernel_rfl) 8 (by kernel_rfl)) rfl (by kernel_rfl) rfl (opensF_cons (opens_int Try.underlying3) rfl (by kernel_rfl) rfl (opensF_cons (opens_int Try.underlying3) rfl (by kernel_rfl) rfl (opensF_last opens38 rfl (by kernel_rfl) rfl)))) (by kernel_rfl) rfl (fun _ => rfl) (fun _ h => h)
def WF26 (x : S26) : Prop := ((fun s : ByteArray => s.size ≤ 140737488351232) x.f0) ∧ ((fun l : List ByteArray => l.length * 16 ≤ 140737488351232 ∧ ∀ x ∈ l, (fun s : ByteArray => s.size ≤ 140737488351232) x) x.f1) ∧ ((fun s : ByteArray => s.size ≤ 140737488351232) x.f2) ∧ ((fun l : List ByteArray => l.length * 16 ≤ 140737488351232 ∧ ∀ x ∈ l, (fun s : ByteArray => s.size ≤ 140737488351232) x) x.f3) ∧ ((fun l : List (S58) => l.length * 72 ≤ 140737488351232 ∧ ∀ x ∈ l, WF58 x) x.f4) ∧ ((fun l : List (S40) => l.length * 56 ≤ 140737488351232 ∧ ∀ x ∈ l, WF40 x) x.f5)
theorem opens26 : Opens Try.prog 26 k26 WF26 :=
 opens_struct' (fun p : (ByteArray) × (List ByteArray) × (ByteArray) × (List ByteArray) × (List (S58)) × (List (S40)) => (⟨p.1, p.2.1, p.2.2.1, p.2.2.2.1, p.2.2.2.2.1, p.2.2.2.2.2⟩ : S26)) (fun x : S26 => (x.f0, x.f1, x.f2, x.f3, x.f4, x.f5)) Try.underlying26 (opensF_cons (opens_string Try.underlying9) rfl (by kernel_rfl) rfl (opensF_cons (opens_slice (opens_string Try.underlying9) Try.underlying22 (by kernel_rfl) 16 (by kernel_rfl)) rfl (by kernel_rfl) rfl (opensF_cons (opens_string Try.underlying9) rfl (by kernel_rfl) rfl (opensF_cons (opens_slice (opens_string Try.underlying9) Try.underlying22 (by kernel_rfl) 16 (by kernel_rfl)) rfl (by kernel_rfl) rfl (opensF_cons (opens_slice opens58 Try.underlying23 (by kernel_rfl) 72 (by kernel_rfl)) rfl (by kernel_rfl) rfl (opensF_last (opens_slice opens40 Try.underlying24 (by kernel_rfl) 56 (by kernel_rfl)) rfl (by kernel_rfl) rfl)))))) (by kernel_rfl) rfl (fun _ => rfl) (fun _ h => h)
def WF48 (x : S48) : Prop := ((fun l : List (S150) => l.length * 40 ≤ 140737488351232 ∧ ∀ x ∈ l, WF150 x) x.f0) ∧ ((fun l : List (S152) => l.length * 32 ≤ 140737488351232 ∧ ∀ x ∈ l, WF152 x) x.f1) ∧ ((fun l : List (S26) => l.length * 128 ≤ 140737488351232 ∧ ∀ x ∈ l, WF26 x) x.f2)
theorem opens48 : Opens Try.prog 48 k48 WF48 :=
 opens_struct' (fun p : (List (S150)) × (List (S152)) × (List (S26)) => (⟨p.1, p.2.1, p.2.2⟩ : S48)) (fun x : S48 => (x.f0, x.f1, x.f2)) Try.underlying48 (opensF_cons (opens_slice opens150 Try.underlying44 (by kernel_rfl) 40 (by kernel_rfl)) rfl (by kernel_rfl) rfl (opensF_cons (opens_slice opens152 Try.underlying45 (by kernel_rfl) 32 (by kernel_rfl)) rfl (by kernel_rfl) rfl (opensF_last (opens_slice opens26 Try.underlying46 (by kernel_rfl) 128 (by kernel_rfl)) rfl (by kernel_rfl) rfl))) (by kernel_rfl) rfl (fun _ => rfl) (fun _ h => h)
def SccOrder.Pure : Prop := ∀ (l0_0 : List (S150)) (l0_1 : List (S152)) (l0_2 : List (S26)), WF48 ⟨l0_0, l0_1, l0_2⟩ → ∃ k, truantlaw20_SccOrder.f k l0_0 l0_1 l0_2 = some true
section
variable {α : Type}
theorem Ev.pos {c : Prop} [Decidable c] {A B : Nat → Option α} {r : α} (h : c) (k : Ev A r) : Ev (fun n => if c then A n else B n) r := Ev.congr (fun n => if_pos h) k
theorem Ev.neg {c : Prop} [Decidable c] {A B : Nat → Option α} {r : α} (h : ¬ c) (k : Ev B r) : Ev (fun n => if c then A n else B n) r := Ev.congr (fun n => if_neg h) k
theorem Ev.one {β : Type} {a : Option β} {b : β} {f : Nat → β → Option α} {r : α} (h : a = some b) (k : Ev (fun n => f n b) r) : Ev (fun n => a.bind (f n)) r := Ev.congr (fun n => by rw [h]; rfl) k
theorem Ev.eq {g : Nat → Option α} {r r' : α} (k : Ev g r) (h : r = r') : Ev g r' := h ▸ k
theorem Ev.det {g : Nat → Option α} {r r' : α} (k : Ev g r) (h : Ev g r') : r = r' := by
 obtain ⟨K, k⟩ := k
 obtain ⟨K', h⟩ := h
 have h1 := k (max K K') (by omega)
 have h2 := h (max K K') (by omega)
 rw [h1] at h2
 exact Option.some.inj h2
theorem Ev.at_ {g : Nat → Option α} {r r' : α} {k : Nat} (hg : ∀ k, LeO (g k) (g (k + 1))) (h : g k = some r) (h' : Ev g r') : r = r' := Ev.det (Ev.of hg h) h'
end
end Go.Proofs.Ytclhjalgflebfaa.Q
