/- What the row of HeapExact rests on, part 1: contracts of the functions that it reaches, and the plain law. -/
import Derived.Test.YtonmlncejikbiaaJHeapExact0
namespace Go.Proofs.Ytonmlncejikbiaa.Q
open Go.RowKit Go.Proofs.YtonmlncejikbiaaW.PrintWords Go.Proofs.YtonmlncejikbiaaW.PrintLast Go.Proofs.YtonmlncejikbiaaW.PrintMore
attribute [local go_sem] max2_int min2_int max_two min_two max_three min_three max_four min_four   -- for this text's walks alone
set_option linter.unusedVariables false
set_option linter.unusedSimpArgs false
/-! ### truantref03_Check: function 16 -/
mutual
def truantref03_Check.l0 : Nat → List (S43) → Int → Option (Int × Int)
 | 0, _, _ => none
 | k + 1, x0, x4 => if x4 < (x0.length : Int) then (if 0 ≤ x4 then ((truantref02_Word.f k ((rd_T43 x0 x4).f0)).bind fun t109 => (if t109 = true then ((truantref03_Find.f k x0 ((rd_T43 x0 x4).f0)).bind fun t110 => (if t110 < x4 then (some (x4, 6)) else (if (((rd_T43 x0 x4).f1).length : Int) > 8 then (some (x4, 4)) else (truantref03_Check.l1 k x0 x4 0 ((rd_T43 x0 x4).f0) ((rd_T43 x0 x4).f1))))) else (some (x4, 1)))) else (none)) else (some (0, 0))
def truantref03_Check.l1 : Nat → List (S43) → Int → Int → ByteArray → List (S48) → Option (Int × Int)
 | 0, _, _, _, _, _ => none
 | k + 1, x0, x4, x6, x109000, x109001 => if x6 < (x109001.length : Int) then (if 0 ≤ x6 then ((truantref02_Word.f k ((rd_T48 x109001 x6).f0)).bind fun t112 => (if t112 = true then (truantref03_Check.l2 k x0 x4 x6 0 x109000 x109001) else (some (x4, 1)))) else (none)) else (truantref03_Check.l0 k x0 (wrap64 (x4 + 1)))
def truantref03_Check.l2 : Nat → List (S43) → Int → Int → Int → ByteArray → List (S48) → Option (Int × Int)
 | 0, _, _, _, _, _, _ => none
 | k + 1, x0, x4, x6, x7, x109000, x109001 => if x7 < x6 then (if 0 ≤ x7 then (if x7 < (x109001.length : Int) then (if 0 ≤ x6 then (if x6 < (x109001.length : Int) then (if ((rd_T48 x109001 x7).f0).toList = ((rd_T48 x109001 x6).f0).toList then (some (x4, 6)) else (truantref03_Check.l2 k x0 x4 x6 (wrap64 (x7 + 1)) x109000 x109001)) else (none)) else (none)) else (none)) else (none)) else (if 0 ≤ x6 then (if x6 < (x109001.length : Int) then ((truantref03_Is.f k x0 ((rd_T48 x109001 x6).f1)).bind fun t116 => (if t116 = true then (truantref03_Check.l1 k x0 x4 (wrap64 (x6 + 1)) x109000 x109001) else (some (x4, 7)))) else (none)) else (none))
end
def truantref03_Check.f (k : Nat) (l0 : List (S43)) : Option (Int × Int) := if (l0.length : Int) > 12 then (some (0, 4)) else (truantref03_Check.l0 k l0 0)
theorem truantref03_Check.mono_l : ∀ k, (∀ y0 y1, LeO (truantref03_Check.l0 k y0 y1) (truantref03_Check.l0 (k + 1) y0 y1)) ∧ (∀ y0 y1 y2 y3 y4, LeO (truantref03_Check.l1 k y0 y1 y2 y3 y4) (truantref03_Check.l1 (k + 1) y0 y1 y2 y3 y4)) ∧ (∀ y0 y1 y2 y3 y4 y5, LeO (truantref03_Check.l2 k y0 y1 y2 y3 y4 y5) (truantref03_Check.l2 (k + 1) y0 y1 y2 y3 y4 y5))
 | 0 => ⟨fun _ _ r h => by simp [truantref03_Check.l0] at h, fun _ _ _ _ _ r h => by simp [truantref03_Check.l1] at h, fun _ _ _ _ _ _ r h => by simp [truantref03_Check.l2] at h⟩
 | k + 1 => by
  obtain ⟨ih0, ih1, ih2⟩ := truantref03_Check.mono_l k
  refine ⟨?_, ?_, ?_⟩
  ·intro y0 y1
   unfold truantref03_Check.l0
   repeat' first
   | (with_reducible exact ih0 _ _)
   | (with_reducible exact ih1 _ _ _ _ _)
   | (with_reducible exact ih2 _ _ _ _ _ _)
   | (with_reducible exact truantref02_Word.mono _ _)
   | (with_reducible exact truantref03_Find.mono _ _ _)
   | (with_reducible exact truantref03_Is.mono _ _ _)
   | (with_reducible exact LeO.refl _)
   | (with_reducible exact LeO.none _)
   | (with_reducible refine LeO.ite ?_ ?_)
   | (with_reducible refine LeO.bind ?_ (fun _ => ?_))
   | exact ih0 _ _
   | exact ih1 _ _ _ _ _
   | exact ih2 _ _ _ _ _ _
   | exact truantref02_Word.mono _ _
   | exact truantref03_Find.mono _ _ _
   | exact truantref03_Is.mono _ _ _
   | exact LeO.none _
   | refine LeO.ite ?_ ?_
   | refine LeO.bind ?_ (fun _ => ?_)
  ·intro y0 y1 y2 y3 y4
   unfold truantref03_Check.l1
   repeat' first
   | (with_reducible exact ih0 _ _)
   | (with_reducible exact ih1 _ _ _ _ _)
   | (with_reducible exact ih2 _ _ _ _ _ _)
   | (with_reducible exact truantref02_Word.mono _ _)
   | (with_reducible exact truantref03_Find.mono _ _ _)
   | (with_reducible exact truantref03_Is.mono _ _ _)
   | (with_reducible exact LeO.refl _)
   | (with_reducible exact LeO.none _)
   | (with_reducible refine LeO.ite ?_ ?_)
   | (with_reducible refine LeO.bind ?_ (fun _ => ?_))
   | exact ih0 _ _
   | exact ih1 _ _ _ _ _
   | exact ih2 _ _ _ _ _ _
   | exact truantref02_Word.mono _ _
   | exact truantref03_Find.mono _ _ _
   | exact truantref03_Is.mono _ _ _
   | exact LeO.none _
   | refine LeO.ite ?_ ?_
   | refine LeO.bind ?_ (fun _ => ?_)
  ·intro y0 y1 y2 y3 y4 y5
   unfold truantref03_Check.l2
   repeat' first
   | (with_reducible exact ih0 _ _)
   | (with_reducible exact ih1 _ _ _ _ _)
   | (with_reducible exact ih2 _ _ _ _ _ _)
   | (with_reducible exact truantref02_Word.mono _ _)
   | (with_reducible exact truantref03_Find.mono _ _ _)
   | (with_reducible exact truantref03_Is.mono _ _ _)
   | (with_reducible exact LeO.refl _)
   | (with_reducible exact LeO.none _)
   | (with_reducible refine LeO.ite ?_ ?_)
   | (with_reducible refine LeO.bind ?_ (fun _ => ?_))
   | exact ih0 _ _
   | exact ih1 _ _ _ _ _
   | exact ih2 _ _ _ _ _ _
   | exact truantref02_Word.mono _ _
   | exact truantref03_Find.mono _ _ _
   | exact truantref03_Is.mono _ _ _
   | exact LeO.none _
   | refine LeO.ite ?_ ?_
   | refine LeO.bind ?_ (fun _ => ?_)
theorem truantref03_Check.mono : ∀ a0 k, LeO (truantref03_Check.f k a0) (truantref03_Check.f (k + 1) a0) := by
 intro a0 k
 obtain ⟨ih0, ih1, ih2⟩ := truantref03_Check.mono_l k
 unfold truantref03_Check.f
 repeat' first
   | (with_reducible exact ih0 _ _)
   | (with_reducible exact ih1 _ _ _ _ _)
   | (with_reducible exact ih2 _ _ _ _ _ _)
   | (with_reducible exact truantref02_Word.mono _ _)
   | (with_reducible exact truantref03_Find.mono _ _ _)
   | (with_reducible exact truantref03_Is.mono _ _ _)
   | (with_reducible exact LeO.refl _)
   | (with_reducible exact LeO.none _)
   | (with_reducible refine LeO.ite ?_ ?_)
   | (with_reducible refine LeO.bind ?_ (fun _ => ?_))
   | exact ih0 _ _
   | exact ih1 _ _ _ _ _
   | exact ih2 _ _ _ _ _ _
   | exact truantref02_Word.mono _ _
   | exact truantref03_Find.mono _ _ _
   | exact truantref03_Is.mono _ _ _
   | exact LeO.none _
   | refine LeO.ite ?_ ?_
   | refine LeO.bind ?_ (fun _ => ?_)
set_option maxHeartbeats 8000000 in
set_option maxRecDepth 100000 in
theorem truantref03_Check.calls (k : Nat) (A0 : Option Addr) (c0 : Nat) (l0 : List (S43)) (r1 : Int) (r2 : Int) (w : World) (hr0 : Kd.C k43 w A0 l0.length l0) (hc0 : l0.length ≤ c0) (h : truantref03_Check.f k l0 = some (r1, r2)) :
  Calls Try.prog 16 #[.slice A0 l0.length c0] w fun e w' => e = .returned (.tuple #[.int .i64 r1, .int .i64 r2]) ∧ Below w.heap.size w w' := by
 have hu43 := Try.underlying43
 have HR0 := Aside0.mk hr0
 have HC0 := Aside0.mk hc0
 clear hr0 hc0
 have HB := Aside0.mk (Below.refl w.heap.size w)
 have H : (if (l0.length : Int) > 12 then (some (0, 4)) else (truantref03_Check.l0 k l0 0)) = some (r1, r2) := h
 clear h
 by_cases c2 : (l0.length : Int) > 12
 ·rw [if_pos c2] at H
  have c2b0 : decide (12 < (l0.length : Int)) = true := decide_eq_true c2
  have c2b1 : decide (12 < l0.length) = true := decide_eq_true (by omega)
  clear c2
  simp only [Option.some.injEq, Prod.mk.injEq] at H
  obtain ⟨rfl, rfl⟩ := H
  go_enter Try.func16, Try.ntmps16
  go_wp2
  repeat (go_quiet (fail); try go_wp2)
  go_ret2
  exact ⟨by first | rfl | (simp [errW_none, errW_some] <;> rfl) | (simp [*, errW_none, errW_some] <;> rfl), by repeat (first | (with_reducible first | exact HB.out | apply below_alloc | apply pw_below_drewN | apply below_drew1) | exact HB.out)⟩
 ·rw [if_neg c2] at H
  have c2b0 : decide (12 < (l0.length : Int)) = false := decide_eq_false c2
  have c2b1 : decide (12 < l0.length) = false := decide_eq_false (by omega)
  clear c2
  have H' := Aside0.mk H
  clear H
  go_enter Try.func16, Try.ntmps16
  go_wp2
  repeat (go_quiet (fail); try go_wp2)
  go_loopg [4] k (fun kq v4 w' => ∃ (x4_1 : Int), v4 = .int .i64 x4_1 ∧ Aside0 (truantref03_Check.l0 kq l0 x4_1 = some (r1, r2)) ∧ Aside0 (kq ≤ k) ∧ Aside0 (Below w.heap.size w w'))
  case atStart => exact ⟨(0), (by first | rfl | (simp; done) | (simp [*]; done)), H', ⟨Nat.le_refl _⟩, ⟨by repeat (first | (with_reducible first | exact HB.out | apply below_alloc | apply pw_below_drewN | apply below_drew1) | exact HB.out)⟩⟩
  case round =>
   clear H'
   try clear c1
   try clear c2
   try clear c2b0
   try clear c2b1
   try clear p2
   obtain ⟨x4_1, rfl, HA, HK1, HB⟩ := hrel
   cases gk with
   | zero => exact absurd HA.out (by simp [truantref03_Check.l0])
   | succ k1 =>
    have H := HA.out
    clear HA
    simp only [truantref03_Check.l0] at H
    by_cases c3 : x4_1 < (l0.length : Int)
    ·rw [if_pos c3] at H
     have c3b0 : decide (x4_1 < (l0.length : Int)) = true := decide_eq_true c3
     clear c3
     by_cases c4 : 0 ≤ x4_1
     ·rw [if_pos c4] at H
      have c4b0 : decide (0 ≤ x4_1) = true := decide_eq_true c4
      clear c4
      replace H := Option.bind_eq_some_iff.mp H
      obtain ⟨t109, A50, H⟩ := H
      replace H : (if t109 = true then ((truantref03_Find.f k1 l0 ((rd_T43 l0 x4_1).f0)).bind fun t110 => (if t110 < x4_1 then (some (x4_1, 6)) else (if (((rd_T43 l0 x4_1).f1).length : Int) > 8 then (some (x4_1, 4)) else (truantref03_Check.l1 k1 l0 x4_1 0 ((rd_T43 l0 x4_1).f0) ((rd_T43 l0 x4_1).f1))))) else (some (x4_1, 1))) = some (r1, r2) := H
      have A5 := Aside0.mk A50
      clear A50
      by_cases c6 : t109 = true
      ·subst c6
       have H1 : ((truantref03_Find.f k1 l0 ((rd_T43 l0 x4_1).f0)).bind fun t110 => (if t110 < x4_1 then (some (x4_1, 6)) else (if (((rd_T43 l0 x4_1).f1).length : Int) > 8 then (some (x4_1, 4)) else (truantref03_Check.l1 k1 l0 x4_1 0 ((rd_T43 l0 x4_1).f0) ((rd_T43 l0 x4_1).f1))))) = some (r1, r2) := by rw [if_pos rfl] at H; exact H
       clear H
       have H := H1
       clear H1
       replace H := Option.bind_eq_some_iff.mp H
       obtain ⟨t110, A70, H⟩ := H
       replace H : (if t110 < x4_1 then (some (x4_1, 6)) else (if (((rd_T43 l0 x4_1).f1).length : Int) > 8 then (some (x4_1, 4)) else (truantref03_Check.l1 k1 l0 x4_1 0 ((rd_T43 l0 x4_1).f0) ((rd_T43 l0 x4_1).f1)))) = some (r1, r2) := H
       have A7 := Aside0.mk A70
       clear A70
       by_cases c8 : t110 < x4_1
       ·rw [if_pos c8] at H
        have c8b0 : decide (t110 < x4_1) = true := decide_eq_true c8
        clear c8
        simp only [Option.some.injEq, Prod.mk.injEq] at H
        obtain ⟨rfl, rfl⟩ := H
        have p107 : 0 ≤ (x4_1 : Int) := of_decide_eq_true (by first | (with_reducible assumption) | assumption)
        have q107 : x4_1 < (l0.length : Int) := of_decide_eq_true (by first | (with_reducible assumption) | assumption)
        obtain ⟨ad107, A107_1, c107_1, e107, hx107_0, hx107_1, hl107_1, hi107_1⟩ := at_T43 HR0.out x4_1 p107 q107
        cases e107
        replace hx107_0 := (HB.out.cell (World.block_lt_of_cell? w _ hx107_0)).trans hx107_0
        replace hx107_1 := (HB.out.cell (World.block_lt_of_cell? w _ hx107_1)).trans hx107_1
        have HR107_1 := Aside0.mk hi107_1
        have HC107_1 := Aside0.mk hl107_1
        clear hi107_1 hl107_1
        replace p107 := eq_true p107
        replace q107 := eq_true q107
        go_wp2_with (first | ((with_reducible refine gate_dst (N := 5) rfl ?_); refine box_event ?hg (N := 5) ?hd (cs := #[.string (⟨#[]⟩ : ByteArray), .slice none 0 0]) (t := 43) ?hr ?_; (case hd => rfl); (case hg => rfl); (case hr => first | (go_simp; done) | (go_simp; rfl)); intro gb108 hg w9 hbox hb; have n0_ := Aside0.mk (below_step (by repeat (first | (with_reducible first | exact HB.out | apply below_alloc | apply pw_below_drewN | apply below_drew1) | exact HB.out)) hb); have n1_ := Aside0.mk (hbox); have n2_ := Aside0.mk ((by rw [hg]; exact (below_size (by repeat (first | (with_reducible first | exact HB.out | apply below_alloc | apply pw_below_drewN | apply below_drew1) | exact HB.out))) : w.heap.size ≤ gb108)); have n3_ := Aside0.mk ((by rw [hg]; exact (below_size (by repeat (first | (with_reducible first | exact HB.out | apply below_alloc | apply pw_below_drewN | apply below_drew1) | exact HB.out))) : w.heap.size ≤ gb108)); clear HB; have HB := n0_; have BK108 := n1_; have GW108 := n2_; have GE108 := n3_; clear n0_ n1_ n2_ n3_; clear hb hbox hg; have hcz10_0 : w9.cell? ⟨gb108, 0, none⟩ = some (.string (⟨#[]⟩ : ByteArray)) := (blk_cell BK108.out 0).trans rfl; have hcz10_1 : w9.cell? ⟨gb108, 1, none⟩ = some (.slice none 0 0) := (blk_cell BK108.out 1).trans rfl; have hfz10_0 := blk_frozen BK108.out 0; have hfz10_1 := blk_frozen BK108.out 1) | (go_at_call 70; (with_reducible refine (truantref02_Word.calls k1 ((rd_T43 l0 x4_1).f0) true _ A5.out).mono ?_); rintro e w11 ⟨rfl, hb⟩; have n0_ := Aside0.mk (blk_below (g := gb108) (o := .cells #[.string ((rd_T43 l0 x4_1).f0), .slice A107_1 ((rd_T43 l0 x4_1).f1).length c107_1] 43 (0, 0)) (by (with_reducible repeat (first | refine blk_drewN ?_ _ | refine blk_drew ?_ | refine blk_alloc ?_ _)); refine blk_put (cs := #[.string ((rd_T43 l0 x4_1).f0), .slice none 0 0]) ?_ 1 _ rfl; (with_reducible repeat (first | refine blk_drewN ?_ _ | refine blk_drew ?_ | refine blk_alloc ?_ _)); refine blk_put (cs := #[.string (⟨#[]⟩ : ByteArray), .slice none 0 0]) ?_ 0 _ rfl; (with_reducible repeat (first | refine blk_drewN ?_ _ | refine blk_drew ?_ | refine blk_alloc ?_ _)); exact BK108.out) hb); have n1_ := Aside0.mk (below_step (by repeat (first | (with_reducible first | exact HB.out | apply below_alloc | apply pw_below_drewN | apply below_drew1 | refine below_set ?_ GE108.out) | exact HB.out)) hb); clear BK108; clear HB; have BK108 := n0_; have HB := n1_; clear n0_ n1_; (try clear hb); (try clear hb2); (try clear hk); (try clear hi); have hcz12_0 : w11.cell? ⟨gb108, 0, none⟩ = some (.string ((rd_T43 l0 x4_1).f0)) := (blk_cell BK108.out 0).trans rfl; have hcz12_1 : w11.cell? ⟨gb108, 1, none⟩ = some (.slice A107_1 ((rd_T43 l0 x4_1).f1).length c107_1) := (blk_cell BK108.out 1).trans rfl; have hfz12_0 := blk_frozen BK108.out 0; have hfz12_1 := blk_frozen BK108.out 1) | (go_at_call 19; (with_reducible refine (truantref03_Find.calls k1 _ _ l0 ((rd_T43 l0 x4_1).f0) t110 _ ?side1 ?side2 A7.out).mono ?_); (case side1 => repeat (first | exact (Kd.C_below HR0.out HB.out) | (with_reducible refine Kd.C_alloc ?_ _) | (with_reducible refine Kd.C_drewN ?_ _) | (with_reducible refine Kd.C_drew ?_))); (case side2 => exact HC0.out); rintro e w' ⟨rfl, ⟨nd, rfl⟩⟩; (try first | exact ⟨rfl, _, World.drewN_drewN _ _ _⟩ | exact ⟨rfl, _, Eq.trans (World.drewN_drewN _ _ _) (congrArg (World.drewN _) (Nat.add_assoc _ _ _))⟩)))
        repeat (go_quiet (first | ((with_reducible refine gate_dst (N := 5) rfl ?_); refine box_event ?hg (N := 5) ?hd (cs := #[.string (⟨#[]⟩ : ByteArray), .slice none 0 0]) (t := 43) ?hr ?_; (case hd => rfl); (case hg => rfl); (case hr => first | (go_simp; done) | (go_simp; rfl)); intro gb108 hg w9 hbox hb; have n0_ := Aside0.mk (below_step (by repeat (first | (with_reducible first | exact HB.out | apply below_alloc | apply pw_below_drewN | apply below_drew1) | exact HB.out)) hb); have n1_ := Aside0.mk (hbox); have n2_ := Aside0.mk ((by rw [hg]; exact (below_size (by repeat (first | (with_reducible first | exact HB.out | apply below_alloc | apply pw_below_drewN | apply below_drew1) | exact HB.out))) : w.heap.size ≤ gb108)); have n3_ := Aside0.mk ((by rw [hg]; exact (below_size (by repeat (first | (with_reducible first | exact HB.out | apply below_alloc | apply pw_below_drewN | apply below_drew1) | exact HB.out))) : w.heap.size ≤ gb108)); clear HB; have HB := n0_; have BK108 := n1_; have GW108 := n2_; have GE108 := n3_; clear n0_ n1_ n2_ n3_; clear hb hbox hg; have hcz10_0 : w9.cell? ⟨gb108, 0, none⟩ = some (.string (⟨#[]⟩ : ByteArray)) := (blk_cell BK108.out 0).trans rfl; have hcz10_1 : w9.cell? ⟨gb108, 1, none⟩ = some (.slice none 0 0) := (blk_cell BK108.out 1).trans rfl; have hfz10_0 := blk_frozen BK108.out 0; have hfz10_1 := blk_frozen BK108.out 1) | (go_at_call 70; (with_reducible refine (truantref02_Word.calls k1 ((rd_T43 l0 x4_1).f0) true _ A5.out).mono ?_); clear A5; rintro e w11 ⟨rfl, hb⟩; have n0_ := Aside0.mk (blk_below (g := gb108) (o := .cells #[.string ((rd_T43 l0 x4_1).f0), .slice A107_1 ((rd_T43 l0 x4_1).f1).length c107_1] 43 (0, 0)) (by (with_reducible repeat (first | refine blk_drewN ?_ _ | refine blk_drew ?_ | refine blk_alloc ?_ _)); refine blk_put (cs := #[.string ((rd_T43 l0 x4_1).f0), .slice none 0 0]) ?_ 1 _ rfl; (with_reducible repeat (first | refine blk_drewN ?_ _ | refine blk_drew ?_ | refine blk_alloc ?_ _)); refine blk_put (cs := #[.string (⟨#[]⟩ : ByteArray), .slice none 0 0]) ?_ 0 _ rfl; (with_reducible repeat (first | refine blk_drewN ?_ _ | refine blk_drew ?_ | refine blk_alloc ?_ _)); exact BK108.out) hb); have n1_ := Aside0.mk (below_step (by repeat (first | (with_reducible first | exact HB.out | apply below_alloc | apply pw_below_drewN | apply below_drew1 | refine below_set ?_ GE108.out) | exact HB.out)) hb); clear BK108; clear HB; have BK108 := n0_; have HB := n1_; clear n0_ n1_; (try clear hb); (try clear hb2); (try clear hk); (try clear hi); have hcz12_0 : w11.cell? ⟨gb108, 0, none⟩ = some (.string ((rd_T43 l0 x4_1).f0)) := (blk_cell BK108.out 0).trans rfl; have hcz12_1 : w11.cell? ⟨gb108, 1, none⟩ = some (.slice A107_1 ((rd_T43 l0 x4_1).f1).length c107_1) := (blk_cell BK108.out 1).trans rfl; have hfz12_0 := blk_frozen BK108.out 0; have hfz12_1 := blk_frozen BK108.out 1) | (go_at_call 19; (with_reducible refine (truantref03_Find.calls k1 _ _ l0 ((rd_T43 l0 x4_1).f0) t110 _ ?side1 ?side2 A7.out).mono ?_); clear A7; (case side1 => repeat (first | exact (Kd.C_below HR0.out HB.out) | (with_reducible refine Kd.C_alloc ?_ _) | (with_reducible refine Kd.C_drewN ?_ _) | (with_reducible refine Kd.C_drew ?_))); (case side2 => exact HC0.out); rintro e w' ⟨rfl, ⟨nd, rfl⟩⟩; (try first | exact ⟨rfl, _, World.drewN_drewN _ _ _⟩ | exact ⟨rfl, _, Eq.trans (World.drewN_drewN _ _ _) (congrArg (World.drewN _) (Nat.add_assoc _ _ _))⟩))); try go_wp2_with (first | ((with_reducible refine gate_dst (N := 5) rfl ?_); refine box_event ?hg (N := 5) ?hd (cs := #[.string (⟨#[]⟩ : ByteArray), .slice none 0 0]) (t := 43) ?hr ?_; (case hd => rfl); (case hg => rfl); (case hr => first | (go_simp; done) | (go_simp; rfl)); intro gb108 hg w9 hbox hb; have n0_ := Aside0.mk (below_step (by repeat (first | (with_reducible first | exact HB.out | apply below_alloc | apply pw_below_drewN | apply below_drew1) | exact HB.out)) hb); have n1_ := Aside0.mk (hbox); have n2_ := Aside0.mk ((by rw [hg]; exact (below_size (by repeat (first | (with_reducible first | exact HB.out | apply below_alloc | apply pw_below_drewN | apply below_drew1) | exact HB.out))) : w.heap.size ≤ gb108)); have n3_ := Aside0.mk ((by rw [hg]; exact (below_size (by repeat (first | (with_reducible first | exact HB.out | apply below_alloc | apply pw_below_drewN | apply below_drew1) | exact HB.out))) : w.heap.size ≤ gb108)); clear HB; have HB := n0_; have BK108 := n1_; have GW108 := n2_; have GE108 := n3_; clear n0_ n1_ n2_ n3_; clear hb hbox hg; have hcz10_0 : w9.cell? ⟨gb108, 0, none⟩ = some (.string (⟨#[]⟩ : ByteArray)) := (blk_cell BK108.out 0).trans rfl; have hcz10_1 : w9.cell? ⟨gb108, 1, none⟩ = some (.slice none 0 0) := (blk_cell BK108.out 1).trans rfl; have hfz10_0 := blk_frozen BK108.out 0; have hfz10_1 := blk_frozen BK108.out 1) | (go_at_call 70; (with_reducible refine (truantref02_Word.calls k1 ((rd_T43 l0 x4_1).f0) true _ A5.out).mono ?_); clear A5; rintro e w11 ⟨rfl, hb⟩; have n0_ := Aside0.mk (blk_below (g := gb108) (o := .cells #[.string ((rd_T43 l0 x4_1).f0), .slice A107_1 ((rd_T43 l0 x4_1).f1).length c107_1] 43 (0, 0)) (by (with_reducible repeat (first | refine blk_drewN ?_ _ | refine blk_drew ?_ | refine blk_alloc ?_ _)); refine blk_put (cs := #[.string ((rd_T43 l0 x4_1).f0), .slice none 0 0]) ?_ 1 _ rfl; (with_reducible repeat (first | refine blk_drewN ?_ _ | refine blk_drew ?_ | refine blk_alloc ?_ _)); refine blk_put (cs := #[.string (⟨#[]⟩ : ByteArray), .slice none 0 0]) ?_ 0 _ rfl; (with_reducible repeat (first | refine blk_drewN ?_ _ | refine blk_drew ?_ | refine blk_alloc ?_ _)); exact BK108.out) hb); have n1_ := Aside0.mk (below_step (by repeat (first | (with_reducible first | exact HB.out | apply below_alloc | apply pw_below_drewN | apply below_drew1 | refine below_set ?_ GE108.out) | exact HB.out)) hb); clear BK108; clear HB; have BK108 := n0_; have HB := n1_; clear n0_ n1_; (try clear hb); (try clear hb2); (try clear hk); (try clear hi); have hcz12_0 : w11.cell? ⟨gb108, 0, none⟩ = some (.string ((rd_T43 l0 x4_1).f0)) := (blk_cell BK108.out 0).trans rfl; have hcz12_1 : w11.cell? ⟨gb108, 1, none⟩ = some (.slice A107_1 ((rd_T43 l0 x4_1).f1).length c107_1) := (blk_cell BK108.out 1).trans rfl; have hfz12_0 := blk_frozen BK108.out 0; have hfz12_1 := blk_frozen BK108.out 1) | (go_at_call 19; (with_reducible refine (truantref03_Find.calls k1 _ _ l0 ((rd_T43 l0 x4_1).f0) t110 _ ?side1 ?side2 A7.out).mono ?_); clear A7; (case side1 => repeat (first | exact (Kd.C_below HR0.out HB.out) | (with_reducible refine Kd.C_alloc ?_ _) | (with_reducible refine Kd.C_drewN ?_ _) | (with_reducible refine Kd.C_drew ?_))); (case side2 => exact HC0.out); rintro e w' ⟨rfl, ⟨nd, rfl⟩⟩; (try first | exact ⟨rfl, _, World.drewN_drewN _ _ _⟩ | exact ⟨rfl, _, Eq.trans (World.drewN_drewN _ _ _) (congrArg (World.drewN _) (Nat.add_assoc _ _ _))⟩))))
        go_ret2
        exact ⟨by first | rfl | (simp [errW_none, errW_some] <;> rfl) | (simp [*, errW_none, errW_some] <;> rfl), by repeat (first | (with_reducible first | exact HB.out | apply below_alloc | apply pw_below_drewN | apply below_drew1 | refine below_set ?_ GE108.out) | exact HB.out)⟩
       ·rw [if_neg c8] at H
        have c8b0 : decide (t110 < x4_1) = false := decide_eq_false c8
        clear c8
        by_cases c13 : (((rd_T43 l0 x4_1).f1).length : Int) > 8
        ·rw [if_pos c13] at H
         have c13b0 : decide (8 < (((rd_T43 l0 x4_1).f1).length : Int)) = true := decide_eq_true c13
         have c13b1 : decide (8 < ((rd_T43 l0 x4_1).f1).length) = true := decide_eq_true (by omega)
         clear c13
         simp only [Option.some.injEq, Prod.mk.injEq] at H
         obtain ⟨rfl, rfl⟩ := H
         have p107 : 0 ≤ (x4_1 : Int) := of_decide_eq_true (by first | (with_reducible assumption) | assumption)
         have q107 : x4_1 < (l0.length : Int) := of_decide_eq_true (by first | (with_reducible assumption) | assumption)
         obtain ⟨ad107, A107_1, c107_1, e107, hx107_0, hx107_1, hl107_1, hi107_1⟩ := at_T43 HR0.out x4_1 p107 q107
         cases e107
         replace hx107_0 := (HB.out.cell (World.block_lt_of_cell? w _ hx107_0)).trans hx107_0
         replace hx107_1 := (HB.out.cell (World.block_lt_of_cell? w _ hx107_1)).trans hx107_1
         have HR107_1 := Aside0.mk hi107_1
         have HC107_1 := Aside0.mk hl107_1
         clear hi107_1 hl107_1
         replace p107 := eq_true p107
         replace q107 := eq_true q107
         go_wp2_with (first | ((with_reducible refine gate_dst (N := 5) rfl ?_); refine box_event ?hg (N := 5) ?hd (cs := #[.string (⟨#[]⟩ : ByteArray), .slice none 0 0]) (t := 43) ?hr ?_; (case hd => rfl); (case hg => rfl); (case hr => first | (go_simp; done) | (go_simp; rfl)); intro gb108 hg w14 hbox hb; have n0_ := Aside0.mk (below_step (by repeat (first | (with_reducible first | exact HB.out | apply below_alloc | apply pw_below_drewN | apply below_drew1) | exact HB.out)) hb); have n1_ := Aside0.mk (hbox); have n2_ := Aside0.mk ((by rw [hg]; exact (below_size (by repeat (first | (with_reducible first | exact HB.out | apply below_alloc | apply pw_below_drewN | apply below_drew1) | exact HB.out))) : w.heap.size ≤ gb108)); have n3_ := Aside0.mk ((by rw [hg]; exact (below_size (by repeat (first | (with_reducible first | exact HB.out | apply below_alloc | apply pw_below_drewN | apply below_drew1) | exact HB.out))) : w.heap.size ≤ gb108)); clear HB; have HB := n0_; have BK108 := n1_; have GW108 := n2_; have GE108 := n3_; clear n0_ n1_ n2_ n3_; clear hb hbox hg; have hcz15_0 : w14.cell? ⟨gb108, 0, none⟩ = some (.string (⟨#[]⟩ : ByteArray)) := (blk_cell BK108.out 0).trans rfl; have hcz15_1 : w14.cell? ⟨gb108, 1, none⟩ = some (.slice none 0 0) := (blk_cell BK108.out 1).trans rfl; have hfz15_0 := blk_frozen BK108.out 0; have hfz15_1 := blk_frozen BK108.out 1) | (go_at_call 70; (with_reducible refine (truantref02_Word.calls k1 ((rd_T43 l0 x4_1).f0) true _ A5.out).mono ?_); rintro e w16 ⟨rfl, hb⟩; have n0_ := Aside0.mk (blk_below (g := gb108) (o := .cells #[.string ((rd_T43 l0 x4_1).f0), .slice A107_1 ((rd_T43 l0 x4_1).f1).length c107_1] 43 (0, 0)) (by (with_reducible repeat (first | refine blk_drewN ?_ _ | refine blk_drew ?_ | refine blk_alloc ?_ _)); refine blk_put (cs := #[.string ((rd_T43 l0 x4_1).f0), .slice none 0 0]) ?_ 1 _ rfl; (with_reducible repeat (first | refine blk_drewN ?_ _ | refine blk_drew ?_ | refine blk_alloc ?_ _)); refine blk_put (cs := #[.string (⟨#[]⟩ : ByteArray), .slice none 0 0]) ?_ 0 _ rfl; (with_reducible repeat (first | refine blk_drewN ?_ _ | refine blk_drew ?_ | refine blk_alloc ?_ _)); exact BK108.out) hb); have n1_ := Aside0.mk (below_step (by repeat (first | (with_reducible first | exact HB.out | apply below_alloc | apply pw_below_drewN | apply below_drew1 | refine below_set ?_ GE108.out) | exact HB.out)) hb); clear BK108; clear HB; have BK108 := n0_; have HB := n1_; clear n0_ n1_; (try clear hb); (try clear hb2); (try clear hk); (try clear hi); have hcz17_0 : w16.cell? ⟨gb108, 0, none⟩ = some (.string ((rd_T43 l0 x4_1).f0)) := (blk_cell BK108.out 0).trans rfl; have hcz17_1 : w16.cell? ⟨gb108, 1, none⟩ = some (.slice A107_1 ((rd_T43 l0 x4_1).f1).length c107_1) := (blk_cell BK108.out 1).trans rfl; have hfz17_0 := blk_frozen BK108.out 0; have hfz17_1 := blk_frozen BK108.out 1) | (go_at_call 19; (with_reducible refine (truantref03_Find.calls k1 _ _ l0 ((rd_T43 l0 x4_1).f0) t110 _ ?side1 ?side2 A7.out).mono ?_); (case side1 => repeat (first | exact (Kd.C_below HR0.out HB.out) | (with_reducible refine Kd.C_alloc ?_ _) | (with_reducible refine Kd.C_drewN ?_ _) | (with_reducible refine Kd.C_drew ?_))); (case side2 => exact HC0.out); rintro e w' ⟨rfl, ⟨nd, rfl⟩⟩; (try first | exact ⟨rfl, _, World.drewN_drewN _ _ _⟩ | exact ⟨rfl, _, Eq.trans (World.drewN_drewN _ _ _) (congrArg (World.drewN _) (Nat.add_assoc _ _ _))⟩)))
         repeat (go_quiet (first | ((with_reducible refine gate_dst (N := 5) rfl ?_); refine box_event ?hg (N := 5) ?hd (cs := #[.string (⟨#[]⟩ : ByteArray), .slice none 0 0]) (t := 43) ?hr ?_; (case hd => rfl); (case hg => rfl); (case hr => first | (go_simp; done) | (go_simp; rfl)); intro gb108 hg w14 hbox hb; have n0_ := Aside0.mk (below_step (by repeat (first | (with_reducible first | exact HB.out | apply below_alloc | apply pw_below_drewN | apply below_drew1) | exact HB.out)) hb); have n1_ := Aside0.mk (hbox); have n2_ := Aside0.mk ((by rw [hg]; exact (below_size (by repeat (first | (with_reducible first | exact HB.out | apply below_alloc | apply pw_below_drewN | apply below_drew1) | exact HB.out))) : w.heap.size ≤ gb108)); have n3_ := Aside0.mk ((by rw [hg]; exact (below_size (by repeat (first | (with_reducible first | exact HB.out | apply below_alloc | apply pw_below_drewN | apply below_drew1) | exact HB.out))) : w.heap.size ≤ gb108)); clear HB; have HB := n0_; have BK108 := n1_; have GW108 := n2_; have GE108 := n3_; clear n0_ n1_ n2_ n3_; clear hb hbox hg; have hcz15_0 : w14.cell? ⟨gb108, 0, none⟩ = some (.string (⟨#[]⟩ : ByteArray)) := (blk_cell BK108.out 0).trans rfl; have hcz15_1 : w14.cell? ⟨gb108, 1, none⟩ = some (.slice none 0 0) := (blk_cell BK108.out 1).trans rfl; have hfz15_0 := blk_frozen BK108.out 0; have hfz15_1 := blk_frozen BK108.out 1) | (go_at_call 70; (with_reducible refine (truantref02_Word.calls k1 ((rd_T43 l0 x4_1).f0) true _ A5.out).mono ?_); clear A5; rintro e w16 ⟨rfl, hb⟩; have n0_ := Aside0.mk (blk_below (g := gb108) (o := .cells #[.string ((rd_T43 l0 x4_1).f0), .slice A107_1 ((rd_T43 l0 x4_1).f1).length c107_1] 43 (0, 0)) (by (with_reducible repeat (first | refine blk_drewN ?_ _ | refine blk_drew ?_ | refine blk_alloc ?_ _)); refine blk_put (cs := #[.string ((rd_T43 l0 x4_1).f0), .slice none 0 0]) ?_ 1 _ rfl; (with_reducible repeat (first | refine blk_drewN ?_ _ | refine blk_drew ?_ | refine blk_alloc ?_ _)); refine blk_put (cs := #[.string (⟨#[]⟩ : ByteArray), .slice none 0 0]) ?_ 0 _ rfl; (with_reducible repeat (first | refine blk_drewN ?_ _ | refine blk_drew ?_ | refine blk_alloc ?_ _)); exact BK108.out) hb); have n1_ := Aside0.mk (below_step (by repeat (first | (with_reducible first | exact HB.out | apply below_alloc | apply pw_below_drewN | apply below_drew1 | refine below_set ?_ GE108.out) | exact HB.out)) hb); clear BK108; clear HB; have BK108 := n0_; have HB := n1_; clear n0_ n1_; (try clear hb); (try clear hb2); (try clear hk); (try clear hi); have hcz17_0 : w16.cell? ⟨gb108, 0, none⟩ = some (.string ((rd_T43 l0 x4_1).f0)) := (blk_cell BK108.out 0).trans rfl; have hcz17_1 : w16.cell? ⟨gb108, 1, none⟩ = some (.slice A107_1 ((rd_T43 l0 x4_1).f1).length c107_1) := (blk_cell BK108.out 1).trans rfl; have hfz17_0 := blk_frozen BK108.out 0; have hfz17_1 := blk_frozen BK108.out 1) | (go_at_call 19; (with_reducible refine (truantref03_Find.calls k1 _ _ l0 ((rd_T43 l0 x4_1).f0) t110 _ ?side1 ?side2 A7.out).mono ?_); clear A7; (case side1 => repeat (first | exact (Kd.C_below HR0.out HB.out) | (with_reducible refine Kd.C_alloc ?_ _) | (with_reducible refine Kd.C_drewN ?_ _) | (with_reducible refine Kd.C_drew ?_))); (case side2 => exact HC0.out); rintro e w' ⟨rfl, ⟨nd, rfl⟩⟩; (try first | exact ⟨rfl, _, World.drewN_drewN _ _ _⟩ | exact ⟨rfl, _, Eq.trans (World.drewN_drewN _ _ _) (congrArg (World.drewN _) (Nat.add_assoc _ _ _))⟩))); try go_wp2_with (first | ((with_reducible refine gate_dst (N := 5) rfl ?_); refine box_event ?hg (N := 5) ?hd (cs := #[.string (⟨#[]⟩ : ByteArray), .slice none 0 0]) (t := 43) ?hr ?_; (case hd => rfl); (case hg => rfl); (case hr => first | (go_simp; done) | (go_simp; rfl)); intro gb108 hg w14 hbox hb; have n0_ := Aside0.mk (below_step (by repeat (first | (with_reducible first | exact HB.out | apply below_alloc | apply pw_below_drewN | apply below_drew1) | exact HB.out)) hb); have n1_ := Aside0.mk (hbox); have n2_ := Aside0.mk ((by rw [hg]; exact (below_size (by repeat (first | (with_reducible first | exact HB.out | apply below_alloc | apply pw_below_drewN | apply below_drew1) | exact HB.out))) : w.heap.size ≤ gb108)); have n3_ := Aside0.mk ((by rw [hg]; exact (below_size (by repeat (first | (with_reducible first | exact HB.out | apply below_alloc | apply pw_below_drewN | apply below_drew1) | exact HB.out))) : w.heap.size ≤ gb108)); clear HB; have HB := n0_; have BK108 := n1_; have GW108 := n2_; have GE108 := n3_; clear n0_ n1_ n2_ n3_; clear hb hbox hg; have hcz15_0 : w14.cell? ⟨gb108, 0, none⟩ = some (.string (⟨#[]⟩ : ByteArray)) := (blk_cell BK108.out 0).trans rfl; have hcz15_1 : w14.cell? ⟨gb108, 1, none⟩ = some (.slice none 0 0) := (blk_cell BK108.out 1).trans rfl; have hfz15_0 := blk_frozen BK108.out 0; have hfz15_1 := blk_frozen BK108.out 1) | (go_at_call 70; (with_reducible refine (truantref02_Word.calls k1 ((rd_T43 l0 x4_1).f0) true _ A5.out).mono ?_); clear A5; rintro e w16 ⟨rfl, hb⟩; have n0_ := Aside0.mk (blk_below (g := gb108) (o := .cells #[.string ((rd_T43 l0 x4_1).f0), .slice A107_1 ((rd_T43 l0 x4_1).f1).length c107_1] 43 (0, 0)) (by (with_reducible repeat (first | refine blk_drewN ?_ _ | refine blk_drew ?_ | refine blk_alloc ?_ _)); refine blk_put (cs := #[.string ((rd_T43 l0 x4_1).f0), .slice none 0 0]) ?_ 1 _ rfl; (with_reducible repeat (first | refine blk_drewN ?_ _ | refine blk_drew ?_ | refine blk_alloc ?_ _)); refine blk_put (cs := #[.string (⟨#[]⟩ : ByteArray), .slice none 0 0]) ?_ 0 _ rfl; (with_reducible repeat (first | refine blk_drewN ?_ _ | refine blk_drew ?_ | refine blk_alloc ?_ _)); exact BK108.out) hb); have n1_ := Aside0.mk (below_step (by repeat (first | (with_reducible first | exact HB.out | apply below_alloc | apply pw_below_drewN | apply below_drew1 | refine below_set ?_ GE108.out) | exact HB.out)) hb); clear BK108; clear HB; have BK108 := n0_; have HB := n1_; clear n0_ n1_; (try clear hb); (try clear hb2); (try clear hk); (try clear hi); have hcz17_0 : w16.cell? ⟨gb108, 0, none⟩ = some (.string ((rd_T43 l0 x4_1).f0)) := (blk_cell BK108.out 0).trans rfl; have hcz17_1 : w16.cell? ⟨gb108, 1, none⟩ = some (.slice A107_1 ((rd_T43 l0 x4_1).f1).length c107_1) := (blk_cell BK108.out 1).trans rfl; have hfz17_0 := blk_frozen BK108.out 0; have hfz17_1 := blk_frozen BK108.out 1) | (go_at_call 19; (with_reducible refine (truantref03_Find.calls k1 _ _ l0 ((rd_T43 l0 x4_1).f0) t110 _ ?side1 ?side2 A7.out).mono ?_); clear A7; (case side1 => repeat (first | exact (Kd.C_below HR0.out HB.out) | (with_reducible refine Kd.C_alloc ?_ _) | (with_reducible refine Kd.C_drewN ?_ _) | (with_reducible refine Kd.C_drew ?_))); (case side2 => exact HC0.out); rintro e w' ⟨rfl, ⟨nd, rfl⟩⟩; (try first | exact ⟨rfl, _, World.drewN_drewN _ _ _⟩ | exact ⟨rfl, _, Eq.trans (World.drewN_drewN _ _ _) (congrArg (World.drewN _) (Nat.add_assoc _ _ _))⟩))))
         go_ret2
         exact ⟨by first | rfl | (simp [errW_none, errW_some] <;> rfl) | (simp [*, errW_none, errW_some] <;> rfl), by repeat (first | (with_reducible first | exact HB.out | apply below_alloc | apply pw_below_drewN | apply below_drew1 | refine below_set ?_ GE108.out) | exact HB.out)⟩
        ·rw [if_neg c13] at H
         have c13b0 : decide (8 < (((rd_T43 l0 x4_1).f1).length : Int)) = false := decide_eq_false c13
         have c13b1 : decide (8 < ((rd_T43 l0 x4_1).f1).length) = false := decide_eq_false (by omega)
         clear c13
         have H' := Aside0.mk H
         clear H
         have p107 : 0 ≤ (x4_1 : Int) := of_decide_eq_true (by first | (with_reducible assumption) | assumption)
         have q107 : x4_1 < (l0.length : Int) := of_decide_eq_true (by first | (with_reducible assumption) | assumption)
         obtain ⟨ad107, A107_1, c107_1, e107, hx107_0, hx107_1, hl107_1, hi107_1⟩ := at_T43 HR0.out x4_1 p107 q107
         cases e107
         replace hx107_0 := (HB.out.cell (World.block_lt_of_cell? w _ hx107_0)).trans hx107_0
         replace hx107_1 := (HB.out.cell (World.block_lt_of_cell? w _ hx107_1)).trans hx107_1
         have HR107_1 := Aside0.mk hi107_1
         have HC107_1 := Aside0.mk hl107_1
         clear hi107_1 hl107_1
         replace p107 := eq_true p107
         replace q107 := eq_true q107
         go_wp2_with (first | ((with_reducible refine gate_dst (N := 5) rfl ?_); refine box_event ?hg (N := 5) ?hd (cs := #[.string (⟨#[]⟩ : ByteArray), .slice none 0 0]) (t := 43) ?hr ?_; (case hd => rfl); (case hg => rfl); (case hr => first | (go_simp; done) | (go_simp; rfl)); intro gb108 hg w18 hbox hb; have n0_ := Aside0.mk (below_step (by repeat (first | (with_reducible first | exact HB.out | apply below_alloc | apply pw_below_drewN | apply below_drew1) | exact HB.out)) hb); have n1_ := Aside0.mk (hbox); have n2_ := Aside0.mk ((by rw [hg]; exact (below_size (by repeat (first | (with_reducible first | exact HB.out | apply below_alloc | apply pw_below_drewN | apply below_drew1) | exact HB.out))) : w.heap.size ≤ gb108)); have n3_ := Aside0.mk ((by rw [hg]; exact (below_size (by repeat (first | (with_reducible first | exact HB.out | apply below_alloc | apply pw_below_drewN | apply below_drew1) | exact HB.out))) : w.heap.size ≤ gb108)); clear HB; have HB := n0_; have BK108 := n1_; have GW108 := n2_; have GE108 := n3_; clear n0_ n1_ n2_ n3_; clear hb hbox hg; have hcz19_0 : w18.cell? ⟨gb108, 0, none⟩ = some (.string (⟨#[]⟩ : ByteArray)) := (blk_cell BK108.out 0).trans rfl; have hcz19_1 : w18.cell? ⟨gb108, 1, none⟩ = some (.slice none 0 0) := (blk_cell BK108.out 1).trans rfl; have hfz19_0 := blk_frozen BK108.out 0; have hfz19_1 := blk_frozen BK108.out 1) | (go_at_call 70; (with_reducible refine (truantref02_Word.calls k1 ((rd_T43 l0 x4_1).f0) true _ A5.out).mono ?_); rintro e w20 ⟨rfl, hb⟩; have n0_ := Aside0.mk (blk_below (g := gb108) (o := .cells #[.string ((rd_T43 l0 x4_1).f0), .slice A107_1 ((rd_T43 l0 x4_1).f1).length c107_1] 43 (0, 0)) (by (with_reducible repeat (first | refine blk_drewN ?_ _ | refine blk_drew ?_ | refine blk_alloc ?_ _)); refine blk_put (cs := #[.string ((rd_T43 l0 x4_1).f0), .slice none 0 0]) ?_ 1 _ rfl; (with_reducible repeat (first | refine blk_drewN ?_ _ | refine blk_drew ?_ | refine blk_alloc ?_ _)); refine blk_put (cs := #[.string (⟨#[]⟩ : ByteArray), .slice none 0 0]) ?_ 0 _ rfl; (with_reducible repeat (first | refine blk_drewN ?_ _ | refine blk_drew ?_ | refine blk_alloc ?_ _)); exact BK108.out) hb); have n1_ := Aside0.mk (below_step (by repeat (first | (with_reducible first | exact HB.out | apply below_alloc | apply pw_below_drewN | apply below_drew1 | refine below_set ?_ GE108.out) | exact HB.out)) hb); clear BK108; clear HB; have BK108 := n0_; have HB := n1_; clear n0_ n1_; (try clear hb); (try clear hb2); (try clear hk); (try clear hi); have hcz21_0 : w20.cell? ⟨gb108, 0, none⟩ = some (.string ((rd_T43 l0 x4_1).f0)) := (blk_cell BK108.out 0).trans rfl; have hcz21_1 : w20.cell? ⟨gb108, 1, none⟩ = some (.slice A107_1 ((rd_T43 l0 x4_1).f1).length c107_1) := (blk_cell BK108.out 1).trans rfl; have hfz21_0 := blk_frozen BK108.out 0; have hfz21_1 := blk_frozen BK108.out 1) | (go_at_call 19; (with_reducible refine (truantref03_Find.calls k1 _ _ l0 ((rd_T43 l0 x4_1).f0) t110 _ ?side1 ?side2 A7.out).mono ?_); (case side1 => repeat (first | exact (Kd.C_below HR0.out HB.out) | (with_reducible refine Kd.C_alloc ?_ _) | (with_reducible refine Kd.C_drewN ?_ _) | (with_reducible refine Kd.C_drew ?_))); (case side2 => exact HC0.out); rintro e w' ⟨rfl, ⟨nd, rfl⟩⟩; (try first | exact ⟨rfl, _, World.drewN_drewN _ _ _⟩ | exact ⟨rfl, _, Eq.trans (World.drewN_drewN _ _ _) (congrArg (World.drewN _) (Nat.add_assoc _ _ _))⟩)))
         repeat (go_quiet (first | ((with_reducible refine gate_dst (N := 5) rfl ?_); refine box_event ?hg (N := 5) ?hd (cs := #[.string (⟨#[]⟩ : ByteArray), .slice none 0 0]) (t := 43) ?hr ?_; (case hd => rfl); (case hg => rfl); (case hr => first | (go_simp; done) | (go_simp; rfl)); intro gb108 hg w18 hbox hb; have n0_ := Aside0.mk (below_step (by repeat (first | (with_reducible first | exact HB.out | apply below_alloc | apply pw_below_drewN | apply below_drew1) | exact HB.out)) hb); have n1_ := Aside0.mk (hbox); have n2_ := Aside0.mk ((by rw [hg]; exact (below_size (by repeat (first | (with_reducible first | exact HB.out | apply below_alloc | apply pw_below_drewN | apply below_drew1) | exact HB.out))) : w.heap.size ≤ gb108)); have n3_ := Aside0.mk ((by rw [hg]; exact (below_size (by repeat (first | (with_reducible first | exact HB.out | apply below_alloc | apply pw_below_drewN | apply below_drew1) | exact HB.out))) : w.heap.size ≤ gb108)); clear HB; have HB := n0_; have BK108 := n1_; have GW108 := n2_; have GE108 := n3_; clear n0_ n1_ n2_ n3_; clear hb hbox hg; have hcz19_0 : w18.cell? ⟨gb108, 0, none⟩ = some (.string (⟨#[]⟩ : ByteArray)) := (blk_cell BK108.out 0).trans rfl; have hcz19_1 : w18.cell? ⟨gb108, 1, none⟩ = some (.slice none 0 0) := (blk_cell BK108.out 1).trans rfl; have hfz19_0 := blk_frozen BK108.out 0; have hfz19_1 := blk_frozen BK108.out 1) | (go_at_call 70; (with_reducible refine (truantref02_Word.calls k1 ((rd_T43 l0 x4_1).f0) true _ A5.out).mono ?_); clear A5; rintro e w20 ⟨rfl, hb⟩; have n0_ := Aside0.mk (blk_below (g := gb108) (o := .cells #[.string ((rd_T43 l0 x4_1).f0), .slice A107_1 ((rd_T43 l0 x4_1).f1).length c107_1] 43 (0, 0)) (by (with_reducible repeat (first | refine blk_drewN ?_ _ | refine blk_drew ?_ | refine blk_alloc ?_ _)); refine blk_put (cs := #[.string ((rd_T43 l0 x4_1).f0), .slice none 0 0]) ?_ 1 _ rfl; (with_reducible repeat (first | refine blk_drewN ?_ _ | refine blk_drew ?_ | refine blk_alloc ?_ _)); refine blk_put (cs := #[.string (⟨#[]⟩ : ByteArray), .slice none 0 0]) ?_ 0 _ rfl; (with_reducible repeat (first | refine blk_drewN ?_ _ | refine blk_drew ?_ | refine blk_alloc ?_ _)); exact BK108.out) hb); have n1_ := Aside0.mk (below_step (by repeat (first | (with_reducible first | exact HB.out | apply below_alloc | apply pw_below_drewN | apply below_drew1 | refine below_set ?_ GE108.out) | exact HB.out)) hb); clear BK108; clear HB; have BK108 := n0_; have HB := n1_; clear n0_ n1_; (try clear hb); (try clear hb2); (try clear hk); (try clear hi); have hcz21_0 : w20.cell? ⟨gb108, 0, none⟩ = some (.string ((rd_T43 l0 x4_1).f0)) := (blk_cell BK108.out 0).trans rfl; have hcz21_1 : w20.cell? ⟨gb108, 1, none⟩ = some (.slice A107_1 ((rd_T43 l0 x4_1).f1).length c107_1) := (blk_cell BK108.out 1).trans rfl; have hfz21_0 := blk_frozen BK108.out 0; have hfz21_1 := blk_frozen BK108.out 1) | (go_at_call 19; (with_reducible refine (truantref03_Find.calls k1 _ _ l0 ((rd_T43 l0 x4_1).f0) t110 _ ?side1 ?side2 A7.out).mono ?_); clear A7; (case side1 => repeat (first | exact (Kd.C_below HR0.out HB.out) | (with_reducible refine Kd.C_alloc ?_ _) | (with_reducible refine Kd.C_drewN ?_ _) | (with_reducible refine Kd.C_drew ?_))); (case side2 => exact HC0.out); rintro e w' ⟨rfl, ⟨nd, rfl⟩⟩; (try first | exact ⟨rfl, _, World.drewN_drewN _ _ _⟩ | exact ⟨rfl, _, Eq.trans (World.drewN_drewN _ _ _) (congrArg (World.drewN _) (Nat.add_assoc _ _ _))⟩))); try go_wp2_with (first | ((with_reducible refine gate_dst (N := 5) rfl ?_); refine box_event ?hg (N := 5) ?hd (cs := #[.string (⟨#[]⟩ : ByteArray), .slice none 0 0]) (t := 43) ?hr ?_; (case hd => rfl); (case hg => rfl); (case hr => first | (go_simp; done) | (go_simp; rfl)); intro gb108 hg w18 hbox hb; have n0_ := Aside0.mk (below_step (by repeat (first | (with_reducible first | exact HB.out | apply below_alloc | apply pw_below_drewN | apply below_drew1) | exact HB.out)) hb); have n1_ := Aside0.mk (hbox); have n2_ := Aside0.mk ((by rw [hg]; exact (below_size (by repeat (first | (with_reducible first | exact HB.out | apply below_alloc | apply pw_below_drewN | apply below_drew1) | exact HB.out))) : w.heap.size ≤ gb108)); have n3_ := Aside0.mk ((by rw [hg]; exact (below_size (by repeat (first | (with_reducible first | exact HB.out | apply below_alloc | apply pw_below_drewN | apply below_drew1) | exact HB.out))) : w.heap.size ≤ gb108)); clear HB; have HB := n0_; have BK108 := n1_; have GW108 := n2_; have GE108 := n3_; clear n0_ n1_ n2_ n3_; clear hb hbox hg; have hcz19_0 : w18.cell? ⟨gb108, 0, none⟩ = some (.string (⟨#[]⟩ : ByteArray)) := (blk_cell BK108.out 0).trans rfl; have hcz19_1 : w18.cell? ⟨gb108, 1, none⟩ = some (.slice none 0 0) := (blk_cell BK108.out 1).trans rfl; have hfz19_0 := blk_frozen BK108.out 0; have hfz19_1 := blk_frozen BK108.out 1) | (go_at_call 70; (with_reducible refine (truantref02_Word.calls k1 ((rd_T43 l0 x4_1).f0) true _ A5.out).mono ?_); clear A5; rintro e w20 ⟨rfl, hb⟩; have n0_ := Aside0.mk (blk_below (g := gb108) (o := .cells #[.string ((rd_T43 l0 x4_1).f0), .slice A107_1 ((rd_T43 l0 x4_1).f1).length c107_1] 43 (0, 0)) (by (with_reducible repeat (first | refine blk_drewN ?_ _ | refine blk_drew ?_ | refine blk_alloc ?_ _)); refine blk_put (cs := #[.string ((rd_T43 l0 x4_1).f0), .slice none 0 0]) ?_ 1 _ rfl; (with_reducible repeat (first | refine blk_drewN ?_ _ | refine blk_drew ?_ | refine blk_alloc ?_ _)); refine blk_put (cs := #[.string (⟨#[]⟩ : ByteArray), .slice none 0 0]) ?_ 0 _ rfl; (with_reducible repeat (first | refine blk_drewN ?_ _ | refine blk_drew ?_ | refine blk_alloc ?_ _)); exact BK108.out) hb); have n1_ := Aside0.mk (below_step (by repeat (first | (with_reducible first | exact HB.out | apply below_alloc | apply pw_below_drewN | apply below_drew1 | refine below_set ?_ GE108.out) | exact HB.out)) hb); clear BK108; clear HB; have BK108 := n0_; have HB := n1_; clear n0_ n1_; (try clear hb); (try clear hb2); (try clear hk); (try clear hi); have hcz21_0 : w20.cell? ⟨gb108, 0, none⟩ = some (.string ((rd_T43 l0 x4_1).f0)) := (blk_cell BK108.out 0).trans rfl; have hcz21_1 : w20.cell? ⟨gb108, 1, none⟩ = some (.slice A107_1 ((rd_T43 l0 x4_1).f1).length c107_1) := (blk_cell BK108.out 1).trans rfl; have hfz21_0 := blk_frozen BK108.out 0; have hfz21_1 := blk_frozen BK108.out 1) | (go_at_call 19; (with_reducible refine (truantref03_Find.calls k1 _ _ l0 ((rd_T43 l0 x4_1).f0) t110 _ ?side1 ?side2 A7.out).mono ?_); clear A7; (case side1 => repeat (first | exact (Kd.C_below HR0.out HB.out) | (with_reducible refine Kd.C_alloc ?_ _) | (with_reducible refine Kd.C_drewN ?_ _) | (with_reducible refine Kd.C_drew ?_))); (case side2 => exact HC0.out); rintro e w' ⟨rfl, ⟨nd, rfl⟩⟩; (try first | exact ⟨rfl, _, World.drewN_drewN _ _ _⟩ | exact ⟨rfl, _, Eq.trans (World.drewN_drewN _ _ _) (congrArg (World.drewN _) (Nat.add_assoc _ _ _))⟩))))
         go_loopg [6] k1 (fun kq v6 w' => ∃ (x6_2 : Int), v6 = .int .i64 x6_2 ∧ Aside0 (truantref03_Check.l1 kq l0 x4_1 x6_2 ((rd_T43 l0 x4_1).f0) ((rd_T43 l0 x4_1).f1) = some (r1, r2)) ∧ Aside0 (kq ≤ k1) ∧ Aside0 (w'.heap[gb108]? = some (.cells #[.string ((rd_T43 l0 x4_1).f0), (.slice A107_1 ((rd_T43 l0 x4_1).f1).length c107_1)] 43 (0, 0))) ∧ Aside0 (Below w.heap.size w w'))
         case atStart => exact ⟨(0), (by first | rfl | (simp; done) | (simp [*]; done)), H', ⟨Nat.le_refl _⟩, ⟨by (with_reducible repeat (first | refine blk_drewN ?_ _ | refine blk_drew ?_ | refine blk_alloc ?_ _)); exact BK108.out⟩, ⟨by repeat (first | (with_reducible first | exact HB.out | apply below_alloc | apply pw_below_drewN | apply below_drew1 | refine below_set ?_ GE108.out) | exact HB.out)⟩⟩
         case round =>
          clear H'
          try clear c1
          try clear p1
          try clear q1
          try clear hx1
          try clear c2
          try clear c2b0
          try clear c2b1
          try clear p2
          try clear c3
          try clear c3b0
          try clear c4
          try clear c4b0
          try clear c6
          try clear c8
          try clear c8b0
          try clear c10
          try clear p10
          try clear q10
          try clear hx10
          try clear c13
          try clear c13b0
          try clear c13b1
          try clear c16
          try clear hcz10_0
          try clear hcz10_1
          try clear hcz12_0
          try clear hcz12_1
          try clear hcz15_0
          try clear hcz15_1
          try clear hcz17_0
          try clear hcz17_1
          try clear hcz19_0
          try clear hcz19_1
          try clear hcz21_0
          try clear hcz21_1
          try clear hfz10_0
          try clear hfz10_1
          try clear hfz12_0
          try clear hfz12_1
          try clear hfz15_0
          try clear hfz15_1
          try clear hfz17_0
          try clear hfz17_1
          try clear hfz19_0
          try clear hfz19_1
          try clear hfz21_0
          try clear hfz21_1
          try clear hx107_0
          try clear hx107_1
          try clear p107
          try clear p2
          try clear q107
          obtain ⟨x6_2, rfl, HA, HK2, BK108, HB⟩ := hrel
          cases gk with
          | zero => exact absurd HA.out (by simp [truantref03_Check.l1])
          | succ k2 =>
           have H := HA.out
           clear HA
           simp only [truantref03_Check.l1] at H
           by_cases c22 : x6_2 < (((rd_T43 l0 x4_1).f1).length : Int)
           ·rw [if_pos c22] at H
            have c22b0 : decide (x6_2 < (((rd_T43 l0 x4_1).f1).length : Int)) = true := decide_eq_true c22
            clear c22
            by_cases c23 : 0 ≤ x6_2
            ·rw [if_pos c23] at H
             have c23b0 : decide (0 ≤ x6_2) = true := decide_eq_true c23
             clear c23
             replace H := Option.bind_eq_some_iff.mp H
             obtain ⟨t112, A240, H⟩ := H
             replace H : (if t112 = true then (truantref03_Check.l2 k2 l0 x4_1 x6_2 0 ((rd_T43 l0 x4_1).f0) ((rd_T43 l0 x4_1).f1)) else (some (x4_1, 1))) = some (r1, r2) := H
             have A24 := Aside0.mk A240
             clear A240
             by_cases c25 : t112 = true
             ·subst c25
              have H1 : (truantref03_Check.l2 k2 l0 x4_1 x6_2 0 ((rd_T43 l0 x4_1).f0) ((rd_T43 l0 x4_1).f1)) = some (r1, r2) := by rw [if_pos rfl] at H; exact H
              clear H
              have H := H1
              clear H1
              have H' := Aside0.mk H
              clear H
              have hcz26_0 : wr.cell? ⟨gb108, 0, none⟩ = some (.string ((rd_T43 l0 x4_1).f0)) := (blk_cell BK108.out 0).trans rfl
              have hcz26_1 : wr.cell? ⟨gb108, 1, none⟩ = some (.slice A107_1 ((rd_T43 l0 x4_1).f1).length c107_1) := (blk_cell BK108.out 1).trans rfl
              have hfz26_0 := blk_frozen BK108.out 0
              have hfz26_1 := blk_frozen BK108.out 1
              have p111 : 0 ≤ (x6_2 : Int) := of_decide_eq_true (by first | (with_reducible assumption) | assumption)
              have q111 : x6_2 < (((rd_T43 l0 x4_1).f1).length : Int) := of_decide_eq_true (by first | (with_reducible assumption) | assumption)
              obtain ⟨ad111, e111, hx111_0, hx111_1⟩ := at_T48 HR107_1.out x6_2 p111 q111
              cases e111
              replace hx111_0 := (HB.out.cell (World.block_lt_of_cell? w _ hx111_0)).trans hx111_0
              replace hx111_1 := (HB.out.cell (World.block_lt_of_cell? w _ hx111_1)).trans hx111_1
              replace p111 := eq_true p111
              replace q111 := eq_true q111
              go_wp2_with (first | (go_at_call 70; (with_reducible refine (truantref02_Word.calls k2 ((rd_T48 ((rd_T43 l0 x4_1).f1) x6_2).f0) true _ A24.out).mono ?_); rintro e w27 ⟨rfl, hb⟩; have n0_ := Aside0.mk (blk_below (g := gb108) (o := .cells #[.string ((rd_T43 l0 x4_1).f0), .slice (some ad111) ((rd_T43 l0 x4_1).f1).length c107_1] 43 (0, 0)) (by (with_reducible repeat (first | refine blk_drewN ?_ _ | refine blk_drew ?_ | refine blk_alloc ?_ _)); exact BK108.out) hb); have n1_ := Aside0.mk (below_step (by repeat (first | (with_reducible first | exact HB.out | apply below_alloc | apply pw_below_drewN | apply below_drew1 | refine below_set ?_ GE108.out) | exact HB.out)) hb); clear BK108; clear HB; have BK108 := n0_; have HB := n1_; clear n0_ n1_; (try clear hb); (try clear hb2); (try clear hk); (try clear hi)))
              repeat (go_quiet (first | (go_at_call 70; (with_reducible refine (truantref02_Word.calls k2 ((rd_T48 ((rd_T43 l0 x4_1).f1) x6_2).f0) true _ A24.out).mono ?_); clear A24; rintro e w27 ⟨rfl, hb⟩; have n0_ := Aside0.mk (blk_below (g := gb108) (o := .cells #[.string ((rd_T43 l0 x4_1).f0), .slice (some ad111) ((rd_T43 l0 x4_1).f1).length c107_1] 43 (0, 0)) (by (with_reducible repeat (first | refine blk_drewN ?_ _ | refine blk_drew ?_ | refine blk_alloc ?_ _)); exact BK108.out) hb); have n1_ := Aside0.mk (below_step (by repeat (first | (with_reducible first | exact HB.out | apply below_alloc | apply pw_below_drewN | apply below_drew1 | refine below_set ?_ GE108.out) | exact HB.out)) hb); clear BK108; clear HB; have BK108 := n0_; have HB := n1_; clear n0_ n1_; (try clear hb); (try clear hb2); (try clear hk); (try clear hi))); try go_wp2_with (first | (go_at_call 70; (with_reducible refine (truantref02_Word.calls k2 ((rd_T48 ((rd_T43 l0 x4_1).f1) x6_2).f0) true _ A24.out).mono ?_); clear A24; rintro e w27 ⟨rfl, hb⟩; have n0_ := Aside0.mk (blk_below (g := gb108) (o := .cells #[.string ((rd_T43 l0 x4_1).f0), .slice (some ad111) ((rd_T43 l0 x4_1).f1).length c107_1] 43 (0, 0)) (by (with_reducible repeat (first | refine blk_drewN ?_ _ | refine blk_drew ?_ | refine blk_alloc ?_ _)); exact BK108.out) hb); have n1_ := Aside0.mk (below_step (by repeat (first | (with_reducible first | exact HB.out | apply below_alloc | apply pw_below_drewN | apply below_drew1 | refine below_set ?_ GE108.out) | exact HB.out)) hb); clear BK108; clear HB; have BK108 := n0_; have HB := n1_; clear n0_ n1_; (try clear hb); (try clear hb2); (try clear hk); (try clear hi))))
              go_loopg [7] k2 (fun kq v7 w' => ∃ (x7_3 : Int), v7 = .int .i64 x7_3 ∧ Aside0 (truantref03_Check.l2 kq l0 x4_1 x6_2 x7_3 ((rd_T43 l0 x4_1).f0) ((rd_T43 l0 x4_1).f1) = some (r1, r2)) ∧ Aside0 (kq ≤ k2) ∧ Aside0 (w'.heap[gb108]? = some (.cells #[.string ((rd_T43 l0 x4_1).f0), (.slice (some ad111) ((rd_T43 l0 x4_1).f1).length c107_1)] 43 (0, 0))) ∧ Aside0 (Below w.heap.size w w'))
              case atStart => exact ⟨(0), (by first | rfl | (simp; done) | (simp [*]; done)), H', ⟨Nat.le_refl _⟩, ⟨by (with_reducible repeat (first | refine blk_drewN ?_ _ | refine blk_drew ?_ | refine blk_alloc ?_ _)); exact BK108.out⟩, ⟨by repeat (first | (with_reducible first | exact HB.out | apply below_alloc | apply pw_below_drewN | apply below_drew1 | refine below_set ?_ GE108.out) | exact HB.out)⟩⟩
              case round =>
               clear H'
               try clear c1
               try clear p1
               try clear q1
               try clear hx1
               try clear c2
               try clear c2b0
               try clear c2b1
               try clear p2
               try clear c3
               try clear c3b0
               try clear c4
               try clear c4b0
               try clear c6
               try clear c8
               try clear c8b0
               try clear c10
               try clear p10
               try clear q10
               try clear hx10
               try clear p11
               try clear q11
               try clear hx11
               try clear c13
               try clear c13b0
               try clear c13b1
               try clear c16
               try clear c22
               try clear c22b0
               try clear c23
               try clear c23b0
               try clear c25
               try clear hcz10_0
               try clear hcz10_1
               try clear hcz12_0
               try clear hcz12_1
               try clear hcz15_0
               try clear hcz15_1
               try clear hcz17_0
               try clear hcz17_1
               try clear hcz19_0
               try clear hcz19_1
               try clear hcz21_0
               try clear hcz21_1
               try clear hcz26_0
               try clear hcz26_1
               try clear hfz10_0
               try clear hfz10_1
               try clear hfz12_0
               try clear hfz12_1
               try clear hfz15_0
               try clear hfz15_1
               try clear hfz17_0
               try clear hfz17_1
               try clear hfz19_0
               try clear hfz19_1
               try clear hfz21_0
               try clear hfz21_1
               try clear hfz26_0
               try clear hfz26_1
               try clear hx107_0
               try clear hx107_1
               try clear hx111_0
               try clear hx111_1
               try clear p1
               try clear p10
               try clear p107
               try clear p111
               try clear p2
               try clear q1
               try clear q10
               try clear q107
               try clear q111
               obtain ⟨x7_3, rfl, HA, HK3, BK108, HB⟩ := hrel
               cases gk with
               | zero => exact absurd HA.out (by simp [truantref03_Check.l2])
               | succ k3 =>
                have H := HA.out
                clear HA
                simp only [truantref03_Check.l2] at H
                by_cases c28 : x7_3 < x6_2
                ·rw [if_pos c28] at H
                 have c28b0 : decide (x7_3 < x6_2) = true := decide_eq_true c28
                 clear c28
                 by_cases c29 : 0 ≤ x7_3
                 ·rw [if_pos c29] at H
                  have c29b0 : decide (0 ≤ x7_3) = true := decide_eq_true c29
                  clear c29
                  by_cases c30 : x7_3 < (((rd_T43 l0 x4_1).f1).length : Int)
                  ·rw [if_pos c30] at H
                   have c30b0 : decide (x7_3 < (((rd_T43 l0 x4_1).f1).length : Int)) = true := decide_eq_true c30
                   clear c30
                   by_cases c31 : 0 ≤ x6_2
                   ·rw [if_pos c31] at H
                    have c31b0 : decide (0 ≤ x6_2) = true := decide_eq_true c31
                    clear c31
                    by_cases c32 : x6_2 < (((rd_T43 l0 x4_1).f1).length : Int)
                    ·rw [if_pos c32] at H
                     have c32b0 : decide (x6_2 < (((rd_T43 l0 x4_1).f1).length : Int)) = true := decide_eq_true c32
                     clear c32
                     by_cases c33 : ((rd_T48 ((rd_T43 l0 x4_1).f1) x7_3).f0).toList = ((rd_T48 ((rd_T43 l0 x4_1).f1) x6_2).f0).toList
                     ·rw [if_pos c33] at H
                      have c33b0 : (((rd_T48 ((rd_T43 l0 x4_1).f1) x7_3).f0).toList == ((rd_T48 ((rd_T43 l0 x4_1).f1) x6_2).f0).toList) = true := beq_iff_eq.mpr c33
                      have c33b1 : (((rd_T48 ((rd_T43 l0 x4_1).f1) x7_3).f0).toList != ((rd_T48 ((rd_T43 l0 x4_1).f1) x6_2).f0).toList) = false := bne_eq_false_iff_eq.mpr c33
                      clear c33
                      simp only [Option.some.injEq, Prod.mk.injEq] at H
                      obtain ⟨rfl, rfl⟩ := H
                      have hcz34_0 : wr.cell? ⟨gb108, 0, none⟩ = some (.string ((rd_T43 l0 x4_1).f0)) := (blk_cell BK108.out 0).trans rfl
                      have hcz34_1 : wr.cell? ⟨gb108, 1, none⟩ = some (.slice (some ad111) ((rd_T43 l0 x4_1).f1).length c107_1) := (blk_cell BK108.out 1).trans rfl
                      have hfz34_0 := blk_frozen BK108.out 0
                      have hfz34_1 := blk_frozen BK108.out 1
                      have p113 : 0 ≤ (x7_3 : Int) := of_decide_eq_true (by first | (with_reducible assumption) | assumption)
                      have q113 : x7_3 < (((rd_T43 l0 x4_1).f1).length : Int) := of_decide_eq_true (by first | (with_reducible assumption) | assumption)
                      obtain ⟨ad113, e113, hx113_0, hx113_1⟩ := at_T48 HR107_1.out x7_3 p113 q113
                      obtain rfl : ad111 = ad113 := (by injection e113)
                      replace hx113_0 := (HB.out.cell (World.block_lt_of_cell? w _ hx113_0)).trans hx113_0
                      replace hx113_1 := (HB.out.cell (World.block_lt_of_cell? w _ hx113_1)).trans hx113_1
                      replace p113 := eq_true p113
                      replace q113 := eq_true q113
                      have p114 : 0 ≤ (x6_2 : Int) := of_decide_eq_true (by first | (with_reducible assumption) | assumption)
                      have q114 : x6_2 < (((rd_T43 l0 x4_1).f1).length : Int) := of_decide_eq_true (by first | (with_reducible assumption) | assumption)
                      obtain ⟨ad114, e114, hx114_0, hx114_1⟩ := at_T48 HR107_1.out x6_2 p114 q114
                      obtain rfl : ad111 = ad114 := (by injection e114)
                      replace hx114_0 := (HB.out.cell (World.block_lt_of_cell? w _ hx114_0)).trans hx114_0
                      replace hx114_1 := (HB.out.cell (World.block_lt_of_cell? w _ hx114_1)).trans hx114_1
                      replace p114 := eq_true p114
                      replace q114 := eq_true q114
                      go_wp2
                      repeat (go_quiet (fail); try go_wp2)
                      go_ret2
                      exact ⟨by first | rfl | (simp [errW_none, errW_some] <;> rfl) | (simp [*, errW_none, errW_some] <;> rfl), by repeat (first | (with_reducible first | exact HB.out | apply below_alloc | apply pw_below_drewN | apply below_drew1 | refine below_set ?_ GE108.out) | exact HB.out)⟩
                     ·rw [if_neg c33] at H
                      have c33b0 : (((rd_T48 ((rd_T43 l0 x4_1).f1) x7_3).f0).toList == ((rd_T48 ((rd_T43 l0 x4_1).f1) x6_2).f0).toList) = false := beq_eq_false_iff_ne.mpr c33
                      have c33b1 : (((rd_T48 ((rd_T43 l0 x4_1).f1) x7_3).f0).toList != ((rd_T48 ((rd_T43 l0 x4_1).f1) x6_2).f0).toList) = true := bne_iff_ne.mpr c33
                      have H' := Aside0.mk H
                      clear H
                      have hcz35_0 : wr.cell? ⟨gb108, 0, none⟩ = some (.string ((rd_T43 l0 x4_1).f0)) := (blk_cell BK108.out 0).trans rfl
                      have hcz35_1 : wr.cell? ⟨gb108, 1, none⟩ = some (.slice (some ad111) ((rd_T43 l0 x4_1).f1).length c107_1) := (blk_cell BK108.out 1).trans rfl
                      have hfz35_0 := blk_frozen BK108.out 0
                      have hfz35_1 := blk_frozen BK108.out 1
                      have p113 : 0 ≤ (x7_3 : Int) := of_decide_eq_true (by first | (with_reducible assumption) | assumption)
                      have q113 : x7_3 < (((rd_T43 l0 x4_1).f1).length : Int) := of_decide_eq_true (by first | (with_reducible assumption) | assumption)
                      obtain ⟨ad113, e113, hx113_0, hx113_1⟩ := at_T48 HR107_1.out x7_3 p113 q113
                      obtain rfl : ad111 = ad113 := (by injection e113)
                      replace hx113_0 := (HB.out.cell (World.block_lt_of_cell? w _ hx113_0)).trans hx113_0
                      replace hx113_1 := (HB.out.cell (World.block_lt_of_cell? w _ hx113_1)).trans hx113_1
                      replace p113 := eq_true p113
                      replace q113 := eq_true q113
                      have p114 : 0 ≤ (x6_2 : Int) := of_decide_eq_true (by first | (with_reducible assumption) | assumption)
                      have q114 : x6_2 < (((rd_T43 l0 x4_1).f1).length : Int) := of_decide_eq_true (by first | (with_reducible assumption) | assumption)
                      obtain ⟨ad114, e114, hx114_0, hx114_1⟩ := at_T48 HR107_1.out x6_2 p114 q114
                      obtain rfl : ad111 = ad114 := (by injection e114)
                      replace hx114_0 := (HB.out.cell (World.block_lt_of_cell? w _ hx114_0)).trans hx114_0
                      replace hx114_1 := (HB.out.cell (World.block_lt_of_cell? w _ hx114_1)).trans hx114_1
                      replace p114 := eq_true p114
                      replace q114 := eq_true q114
                      go_wp2
                      repeat (go_quiet (fail); try go_wp2)
                      go_roundg k3
                      case measure => have := HK1.out; have := HK2.out; have := HK3.out; omega
                      case rel => exact ⟨(wrap64 (x7_3 + 1)), (by first | rfl | (simp; done) | (simp [*]; done)), H', ⟨by have := HK1.out; have := HK2.out; have := HK3.out; omega⟩, ⟨by (with_reducible repeat (first | refine blk_drewN ?_ _ | refine blk_drew ?_ | refine blk_alloc ?_ _)); exact BK108.out⟩, ⟨by repeat (first | (with_reducible first | exact HB.out | apply below_alloc | apply pw_below_drewN | apply below_drew1 | refine below_set ?_ GE108.out) | exact HB.out)⟩⟩
                    ·rw [if_neg c32] at H
                     exact absurd H (by simp)
                   ·rw [if_neg c31] at H
                    exact absurd H (by simp)
                  ·rw [if_neg c30] at H
                   exact absurd H (by simp)
                 ·rw [if_neg c29] at H
                  exact absurd H (by simp)
                ·rw [if_neg c28] at H
                 have c28b0 : decide (x7_3 < x6_2) = false := decide_eq_false c28
                 clear c28
                 by_cases c36 : 0 ≤ x6_2
                 ·rw [if_pos c36] at H
                  have c36b0 : decide (0 ≤ x6_2) = true := decide_eq_true c36
                  clear c36
                  by_cases c37 : x6_2 < (((rd_T43 l0 x4_1).f1).length : Int)
                  ·rw [if_pos c37] at H
                   have c37b0 : decide (x6_2 < (((rd_T43 l0 x4_1).f1).length : Int)) = true := decide_eq_true c37
                   clear c37
                   replace H := Option.bind_eq_some_iff.mp H
                   obtain ⟨t116, A380, H⟩ := H
                   replace H : (if t116 = true then (truantref03_Check.l1 k3 l0 x4_1 (wrap64 (x6_2 + 1)) ((rd_T43 l0 x4_1).f0) ((rd_T43 l0 x4_1).f1)) else (some (x4_1, 7))) = some (r1, r2) := H
                   have A38 := Aside0.mk A380
                   clear A380
                   by_cases c39 : t116 = true
                   ·subst c39
                    have H1 : (truantref03_Check.l1 k3 l0 x4_1 (wrap64 (x6_2 + 1)) ((rd_T43 l0 x4_1).f0) ((rd_T43 l0 x4_1).f1)) = some (r1, r2) := by rw [if_pos rfl] at H; exact H
                    clear H
                    have H := H1
                    clear H1
                    have H' := Aside0.mk H
                    clear H
                    have hcz40_0 : wr.cell? ⟨gb108, 0, none⟩ = some (.string ((rd_T43 l0 x4_1).f0)) := (blk_cell BK108.out 0).trans rfl
                    have hcz40_1 : wr.cell? ⟨gb108, 1, none⟩ = some (.slice (some ad111) ((rd_T43 l0 x4_1).f1).length c107_1) := (blk_cell BK108.out 1).trans rfl
                    have hfz40_0 := blk_frozen BK108.out 0
                    have hfz40_1 := blk_frozen BK108.out 1
                    have p115 : 0 ≤ (x6_2 : Int) := of_decide_eq_true (by first | (with_reducible assumption) | assumption)
                    have q115 : x6_2 < (((rd_T43 l0 x4_1).f1).length : Int) := of_decide_eq_true (by first | (with_reducible assumption) | assumption)
                    obtain ⟨ad115, e115, hx115_0, hx115_1⟩ := at_T48 HR107_1.out x6_2 p115 q115
                    obtain rfl : ad111 = ad115 := (by injection e115)
                    replace hx115_0 := (HB.out.cell (World.block_lt_of_cell? w _ hx115_0)).trans hx115_0
                    replace hx115_1 := (HB.out.cell (World.block_lt_of_cell? w _ hx115_1)).trans hx115_1
                    replace p115 := eq_true p115
                    replace q115 := eq_true q115
                    go_wp2_with (first | (go_at_call 22; (with_reducible refine (truantref03_Is.calls k3 _ _ l0 ((rd_T48 ((rd_T43 l0 x4_1).f1) x6_2).f1) true _ ?side1 ?side2 A38.out).mono ?_); (case side1 => repeat (first | exact (Kd.C_below HR0.out HB.out) | (with_reducible refine Kd.C_alloc ?_ _) | (with_reducible refine Kd.C_drewN ?_ _) | (with_reducible refine Kd.C_drew ?_))); (case side2 => exact HC0.out); rintro e w' ⟨rfl, ⟨nd, rfl⟩⟩; (try first | exact ⟨rfl, _, World.drewN_drewN _ _ _⟩ | exact ⟨rfl, _, Eq.trans (World.drewN_drewN _ _ _) (congrArg (World.drewN _) (Nat.add_assoc _ _ _))⟩)))
                    repeat (go_quiet (first | (go_at_call 22; (with_reducible refine (truantref03_Is.calls k3 _ _ l0 ((rd_T48 ((rd_T43 l0 x4_1).f1) x6_2).f1) true _ ?side1 ?side2 A38.out).mono ?_); clear A38; (case side1 => repeat (first | exact (Kd.C_below HR0.out HB.out) | (with_reducible refine Kd.C_alloc ?_ _) | (with_reducible refine Kd.C_drewN ?_ _) | (with_reducible refine Kd.C_drew ?_))); (case side2 => exact HC0.out); rintro e w' ⟨rfl, ⟨nd, rfl⟩⟩; (try first | exact ⟨rfl, _, World.drewN_drewN _ _ _⟩ | exact ⟨rfl, _, Eq.trans (World.drewN_drewN _ _ _) (congrArg (World.drewN _) (Nat.add_assoc _ _ _))⟩))); try go_wp2_with (first | (go_at_call 22; (with_reducible refine (truantref03_Is.calls k3 _ _ l0 ((rd_T48 ((rd_T43 l0 x4_1).f1) x6_2).f1) true _ ?side1 ?side2 A38.out).mono ?_); clear A38; (case side1 => repeat (first | exact (Kd.C_below HR0.out HB.out) | (with_reducible refine Kd.C_alloc ?_ _) | (with_reducible refine Kd.C_drewN ?_ _) | (with_reducible refine Kd.C_drew ?_))); (case side2 => exact HC0.out); rintro e w' ⟨rfl, ⟨nd, rfl⟩⟩; (try first | exact ⟨rfl, _, World.drewN_drewN _ _ _⟩ | exact ⟨rfl, _, Eq.trans (World.drewN_drewN _ _ _) (congrArg (World.drewN _) (Nat.add_assoc _ _ _))⟩))))
                    go_roundg k3
                    case measure => have := HK1.out; have := HK2.out; have := HK3.out; omega
                    case rel => exact ⟨(wrap64 (x6_2 + 1)), (by first | rfl | (simp; done) | (simp [*]; done)), H', ⟨by have := HK1.out; have := HK2.out; have := HK3.out; omega⟩, ⟨by (with_reducible repeat (first | refine blk_drewN ?_ _ | refine blk_drew ?_ | refine blk_alloc ?_ _)); exact BK108.out⟩, ⟨by repeat (first | (with_reducible first | exact HB.out | apply below_alloc | apply pw_below_drewN | apply below_drew1 | refine below_set ?_ GE108.out) | exact HB.out)⟩⟩
                   ·replace c39 := Bool.eq_false_iff.mpr c39
                    subst c39
                    have H1 : (some (x4_1, 7)) = some (r1, r2) := by rw [if_neg (show ¬ (false = true) by decide)] at H; exact H
                    clear H
                    have H := H1
                    clear H1
                    simp only [Option.some.injEq, Prod.mk.injEq] at H
                    obtain ⟨rfl, rfl⟩ := H
                    have hcz41_0 : wr.cell? ⟨gb108, 0, none⟩ = some (.string ((rd_T43 l0 x4_1).f0)) := (blk_cell BK108.out 0).trans rfl
                    have hcz41_1 : wr.cell? ⟨gb108, 1, none⟩ = some (.slice (some ad111) ((rd_T43 l0 x4_1).f1).length c107_1) := (blk_cell BK108.out 1).trans rfl
                    have hfz41_0 := blk_frozen BK108.out 0
                    have hfz41_1 := blk_frozen BK108.out 1
                    have p115 : 0 ≤ (x6_2 : Int) := of_decide_eq_true (by first | (with_reducible assumption) | assumption)
                    have q115 : x6_2 < (((rd_T43 l0 x4_1).f1).length : Int) := of_decide_eq_true (by first | (with_reducible assumption) | assumption)
                    obtain ⟨ad115, e115, hx115_0, hx115_1⟩ := at_T48 HR107_1.out x6_2 p115 q115
                    obtain rfl : ad111 = ad115 := (by injection e115)
                    replace hx115_0 := (HB.out.cell (World.block_lt_of_cell? w _ hx115_0)).trans hx115_0
                    replace hx115_1 := (HB.out.cell (World.block_lt_of_cell? w _ hx115_1)).trans hx115_1
                    replace p115 := eq_true p115
                    replace q115 := eq_true q115
                    go_wp2_with (first | (go_at_call 22; (with_reducible refine (truantref03_Is.calls k3 _ _ l0 ((rd_T48 ((rd_T43 l0 x4_1).f1) x6_2).f1) false _ ?side1 ?side2 A38.out).mono ?_); (case side1 => repeat (first | exact (Kd.C_below HR0.out HB.out) | (with_reducible refine Kd.C_alloc ?_ _) | (with_reducible refine Kd.C_drewN ?_ _) | (with_reducible refine Kd.C_drew ?_))); (case side2 => exact HC0.out); rintro e w' ⟨rfl, ⟨nd, rfl⟩⟩; (try first | exact ⟨rfl, _, World.drewN_drewN _ _ _⟩ | exact ⟨rfl, _, Eq.trans (World.drewN_drewN _ _ _) (congrArg (World.drewN _) (Nat.add_assoc _ _ _))⟩)))
                    repeat (go_quiet (first | (go_at_call 22; (with_reducible refine (truantref03_Is.calls k3 _ _ l0 ((rd_T48 ((rd_T43 l0 x4_1).f1) x6_2).f1) false _ ?side1 ?side2 A38.out).mono ?_); clear A38; (case side1 => repeat (first | exact (Kd.C_below HR0.out HB.out) | (with_reducible refine Kd.C_alloc ?_ _) | (with_reducible refine Kd.C_drewN ?_ _) | (with_reducible refine Kd.C_drew ?_))); (case side2 => exact HC0.out); rintro e w' ⟨rfl, ⟨nd, rfl⟩⟩; (try first | exact ⟨rfl, _, World.drewN_drewN _ _ _⟩ | exact ⟨rfl, _, Eq.trans (World.drewN_drewN _ _ _) (congrArg (World.drewN _) (Nat.add_assoc _ _ _))⟩))); try go_wp2_with (first | (go_at_call 22; (with_reducible refine (truantref03_Is.calls k3 _ _ l0 ((rd_T48 ((rd_T43 l0 x4_1).f1) x6_2).f1) false _ ?side1 ?side2 A38.out).mono ?_); clear A38; (case side1 => repeat (first | exact (Kd.C_below HR0.out HB.out) | (with_reducible refine Kd.C_alloc ?_ _) | (with_reducible refine Kd.C_drewN ?_ _) | (with_reducible refine Kd.C_drew ?_))); (case side2 => exact HC0.out); rintro e w' ⟨rfl, ⟨nd, rfl⟩⟩; (try first | exact ⟨rfl, _, World.drewN_drewN _ _ _⟩ | exact ⟨rfl, _, Eq.trans (World.drewN_drewN _ _ _) (congrArg (World.drewN _) (Nat.add_assoc _ _ _))⟩))))
                    go_ret2
                    exact ⟨by first | rfl | (simp [errW_none, errW_some] <;> rfl) | (simp [*, errW_none, errW_some] <;> rfl), by repeat (first | (with_reducible first | exact HB.out | apply below_alloc | apply pw_below_drewN | apply below_drew1 | refine below_set ?_ GE108.out) | exact HB.out)⟩
                  ·rw [if_neg c37] at H
                   exact absurd H (by simp)
                 ·rw [if_neg c36] at H
                  exact absurd H (by simp)
             ·replace c25 := Bool.eq_false_iff.mpr c25
              subst c25
              have H1 : (some (x4_1, 1)) = some (r1, r2) := by rw [if_neg (show ¬ (false = true) by decide)] at H; exact H
              clear H
              have H := H1
              clear H1
              simp only [Option.some.injEq, Prod.mk.injEq] at H
              obtain ⟨rfl, rfl⟩ := H
              have hcz42_0 : wr.cell? ⟨gb108, 0, none⟩ = some (.string ((rd_T43 l0 x4_1).f0)) := (blk_cell BK108.out 0).trans rfl
              have hcz42_1 : wr.cell? ⟨gb108, 1, none⟩ = some (.slice A107_1 ((rd_T43 l0 x4_1).f1).length c107_1) := (blk_cell BK108.out 1).trans rfl
              have hfz42_0 := blk_frozen BK108.out 0
              have hfz42_1 := blk_frozen BK108.out 1
              have p111 : 0 ≤ (x6_2 : Int) := of_decide_eq_true (by first | (with_reducible assumption) | assumption)
              have q111 : x6_2 < (((rd_T43 l0 x4_1).f1).length : Int) := of_decide_eq_true (by first | (with_reducible assumption) | assumption)
              obtain ⟨ad111, e111, hx111_0, hx111_1⟩ := at_T48 HR107_1.out x6_2 p111 q111
              cases e111
              replace hx111_0 := (HB.out.cell (World.block_lt_of_cell? w _ hx111_0)).trans hx111_0
              replace hx111_1 := (HB.out.cell (World.block_lt_of_cell? w _ hx111_1)).trans hx111_1
              replace p111 := eq_true p111
              replace q111 := eq_true q111
              go_wp2_with (first | (go_at_call 70; (with_reducible refine (truantref02_Word.calls k2 ((rd_T48 ((rd_T43 l0 x4_1).f1) x6_2).f0) false _ A24.out).mono ?_); rintro e w43 ⟨rfl, hb⟩; have n0_ := Aside0.mk (blk_below (g := gb108) (o := .cells #[.string ((rd_T43 l0 x4_1).f0), .slice (some ad111) ((rd_T43 l0 x4_1).f1).length c107_1] 43 (0, 0)) (by (with_reducible repeat (first | refine blk_drewN ?_ _ | refine blk_drew ?_ | refine blk_alloc ?_ _)); exact BK108.out) hb); have n1_ := Aside0.mk (below_step (by repeat (first | (with_reducible first | exact HB.out | apply below_alloc | apply pw_below_drewN | apply below_drew1 | refine below_set ?_ GE108.out) | exact HB.out)) hb); clear BK108; clear HB; have BK108 := n0_; have HB := n1_; clear n0_ n1_; (try clear hb); (try clear hb2); (try clear hk); (try clear hi)))
              repeat (go_quiet (first | (go_at_call 70; (with_reducible refine (truantref02_Word.calls k2 ((rd_T48 ((rd_T43 l0 x4_1).f1) x6_2).f0) false _ A24.out).mono ?_); clear A24; rintro e w43 ⟨rfl, hb⟩; have n0_ := Aside0.mk (blk_below (g := gb108) (o := .cells #[.string ((rd_T43 l0 x4_1).f0), .slice (some ad111) ((rd_T43 l0 x4_1).f1).length c107_1] 43 (0, 0)) (by (with_reducible repeat (first | refine blk_drewN ?_ _ | refine blk_drew ?_ | refine blk_alloc ?_ _)); exact BK108.out) hb); have n1_ := Aside0.mk (below_step (by repeat (first | (with_reducible first | exact HB.out | apply below_alloc | apply pw_below_drewN | apply below_drew1 | refine below_set ?_ GE108.out) | exact HB.out)) hb); clear BK108; clear HB; have BK108 := n0_; have HB := n1_; clear n0_ n1_; (try clear hb); (try clear hb2); (try clear hk); (try clear hi))); try go_wp2_with (first | (go_at_call 70; (with_reducible refine (truantref02_Word.calls k2 ((rd_T48 ((rd_T43 l0 x4_1).f1) x6_2).f0) false _ A24.out).mono ?_); clear A24; rintro e w43 ⟨rfl, hb⟩; have n0_ := Aside0.mk (blk_below (g := gb108) (o := .cells #[.string ((rd_T43 l0 x4_1).f0), .slice (some ad111) ((rd_T43 l0 x4_1).f1).length c107_1] 43 (0, 0)) (by (with_reducible repeat (first | refine blk_drewN ?_ _ | refine blk_drew ?_ | refine blk_alloc ?_ _)); exact BK108.out) hb); have n1_ := Aside0.mk (below_step (by repeat (first | (with_reducible first | exact HB.out | apply below_alloc | apply pw_below_drewN | apply below_drew1 | refine below_set ?_ GE108.out) | exact HB.out)) hb); clear BK108; clear HB; have BK108 := n0_; have HB := n1_; clear n0_ n1_; (try clear hb); (try clear hb2); (try clear hk); (try clear hi))))
              go_ret2
              exact ⟨by first | rfl | (simp [errW_none, errW_some] <;> rfl) | (simp [*, errW_none, errW_some] <;> rfl), by repeat (first | (with_reducible first | exact HB.out | apply below_alloc | apply pw_below_drewN | apply below_drew1 | refine below_set ?_ GE108.out) | exact HB.out)⟩
            ·rw [if_neg c23] at H
             exact absurd H (by simp)
           ·rw [if_neg c22] at H
            have c22b0 : decide (x6_2 < (((rd_T43 l0 x4_1).f1).length : Int)) = false := decide_eq_false c22
            clear c22
            have H' := Aside0.mk H
            clear H
            have hcz44_0 : wr.cell? ⟨gb108, 0, none⟩ = some (.string ((rd_T43 l0 x4_1).f0)) := (blk_cell BK108.out 0).trans rfl
            have hcz44_1 : wr.cell? ⟨gb108, 1, none⟩ = some (.slice A107_1 ((rd_T43 l0 x4_1).f1).length c107_1) := (blk_cell BK108.out 1).trans rfl
            have hfz44_0 := blk_frozen BK108.out 0
            have hfz44_1 := blk_frozen BK108.out 1
            go_wp2
            repeat (go_quiet (fail); try go_wp2)
            go_roundg k2
            case measure => have := HK1.out; have := HK2.out; omega
            case rel => exact ⟨(wrap64 (x4_1 + 1)), (by first | rfl | (simp; done) | (simp [*]; done)), H', ⟨by have := HK1.out; have := HK2.out; omega⟩, ⟨by repeat (first | (with_reducible first | exact HB.out | apply below_alloc | apply pw_below_drewN | apply below_drew1 | refine below_set ?_ GE108.out) | exact HB.out)⟩⟩
      ·replace c6 := Bool.eq_false_iff.mpr c6
       subst c6
       have H1 : (some (x4_1, 1)) = some (r1, r2) := by rw [if_neg (show ¬ (false = true) by decide)] at H; exact H
       clear H
       have H := H1
       clear H1
       simp only [Option.some.injEq, Prod.mk.injEq] at H
       obtain ⟨rfl, rfl⟩ := H
       have p107 : 0 ≤ (x4_1 : Int) := of_decide_eq_true (by first | (with_reducible assumption) | assumption)
       have q107 : x4_1 < (l0.length : Int) := of_decide_eq_true (by first | (with_reducible assumption) | assumption)
       obtain ⟨ad107, A107_1, c107_1, e107, hx107_0, hx107_1, hl107_1, hi107_1⟩ := at_T43 HR0.out x4_1 p107 q107
       cases e107
       replace hx107_0 := (HB.out.cell (World.block_lt_of_cell? w _ hx107_0)).trans hx107_0
       replace hx107_1 := (HB.out.cell (World.block_lt_of_cell? w _ hx107_1)).trans hx107_1
       have HR107_1 := Aside0.mk hi107_1
       have HC107_1 := Aside0.mk hl107_1
       clear hi107_1 hl107_1
       replace p107 := eq_true p107
       replace q107 := eq_true q107
       go_wp2_with (first | ((with_reducible refine gate_dst (N := 5) rfl ?_); refine box_event ?hg (N := 5) ?hd (cs := #[.string (⟨#[]⟩ : ByteArray), .slice none 0 0]) (t := 43) ?hr ?_; (case hd => rfl); (case hg => rfl); (case hr => first | (go_simp; done) | (go_simp; rfl)); intro gb108 hg w45 hbox hb; have n0_ := Aside0.mk (below_step (by repeat (first | (with_reducible first | exact HB.out | apply below_alloc | apply pw_below_drewN | apply below_drew1) | exact HB.out)) hb); have n1_ := Aside0.mk (hbox); have n2_ := Aside0.mk ((by rw [hg]; exact (below_size (by repeat (first | (with_reducible first | exact HB.out | apply below_alloc | apply pw_below_drewN | apply below_drew1) | exact HB.out))) : w.heap.size ≤ gb108)); have n3_ := Aside0.mk ((by rw [hg]; exact (below_size (by repeat (first | (with_reducible first | exact HB.out | apply below_alloc | apply pw_below_drewN | apply below_drew1) | exact HB.out))) : w.heap.size ≤ gb108)); clear HB; have HB := n0_; have BK108 := n1_; have GW108 := n2_; have GE108 := n3_; clear n0_ n1_ n2_ n3_; clear hb hbox hg; have hcz46_0 : w45.cell? ⟨gb108, 0, none⟩ = some (.string (⟨#[]⟩ : ByteArray)) := (blk_cell BK108.out 0).trans rfl; have hcz46_1 : w45.cell? ⟨gb108, 1, none⟩ = some (.slice none 0 0) := (blk_cell BK108.out 1).trans rfl; have hfz46_0 := blk_frozen BK108.out 0; have hfz46_1 := blk_frozen BK108.out 1) | (go_at_call 70; (with_reducible refine (truantref02_Word.calls k1 ((rd_T43 l0 x4_1).f0) false _ A5.out).mono ?_); rintro e w47 ⟨rfl, hb⟩; have n0_ := Aside0.mk (blk_below (g := gb108) (o := .cells #[.string ((rd_T43 l0 x4_1).f0), .slice A107_1 ((rd_T43 l0 x4_1).f1).length c107_1] 43 (0, 0)) (by (with_reducible repeat (first | refine blk_drewN ?_ _ | refine blk_drew ?_ | refine blk_alloc ?_ _)); refine blk_put (cs := #[.string ((rd_T43 l0 x4_1).f0), .slice none 0 0]) ?_ 1 _ rfl; (with_reducible repeat (first | refine blk_drewN ?_ _ | refine blk_drew ?_ | refine blk_alloc ?_ _)); refine blk_put (cs := #[.string (⟨#[]⟩ : ByteArray), .slice none 0 0]) ?_ 0 _ rfl; (with_reducible repeat (first | refine blk_drewN ?_ _ | refine blk_drew ?_ | refine blk_alloc ?_ _)); exact BK108.out) hb); have n1_ := Aside0.mk (below_step (by repeat (first | (with_reducible first | exact HB.out | apply below_alloc | apply pw_below_drewN | apply below_drew1 | refine below_set ?_ GE108.out) | exact HB.out)) hb); clear BK108; clear HB; have BK108 := n0_; have HB := n1_; clear n0_ n1_; (try clear hb); (try clear hb2); (try clear hk); (try clear hi)))
       repeat (go_quiet (first | ((with_reducible refine gate_dst (N := 5) rfl ?_); refine box_event ?hg (N := 5) ?hd (cs := #[.string (⟨#[]⟩ : ByteArray), .slice none 0 0]) (t := 43) ?hr ?_; (case hd => rfl); (case hg => rfl); (case hr => first | (go_simp; done) | (go_simp; rfl)); intro gb108 hg w45 hbox hb; have n0_ := Aside0.mk (below_step (by repeat (first | (with_reducible first | exact HB.out | apply below_alloc | apply pw_below_drewN | apply below_drew1) | exact HB.out)) hb); have n1_ := Aside0.mk (hbox); have n2_ := Aside0.mk ((by rw [hg]; exact (below_size (by repeat (first | (with_reducible first | exact HB.out | apply below_alloc | apply pw_below_drewN | apply below_drew1) | exact HB.out))) : w.heap.size ≤ gb108)); have n3_ := Aside0.mk ((by rw [hg]; exact (below_size (by repeat (first | (with_reducible first | exact HB.out | apply below_alloc | apply pw_below_drewN | apply below_drew1) | exact HB.out))) : w.heap.size ≤ gb108)); clear HB; have HB := n0_; have BK108 := n1_; have GW108 := n2_; have GE108 := n3_; clear n0_ n1_ n2_ n3_; clear hb hbox hg; have hcz46_0 : w45.cell? ⟨gb108, 0, none⟩ = some (.string (⟨#[]⟩ : ByteArray)) := (blk_cell BK108.out 0).trans rfl; have hcz46_1 : w45.cell? ⟨gb108, 1, none⟩ = some (.slice none 0 0) := (blk_cell BK108.out 1).trans rfl; have hfz46_0 := blk_frozen BK108.out 0; have hfz46_1 := blk_frozen BK108.out 1) | (go_at_call 70; (with_reducible refine (truantref02_Word.calls k1 ((rd_T43 l0 x4_1).f0) false _ A5.out).mono ?_); clear A5; rintro e w47 ⟨rfl, hb⟩; have n0_ := Aside0.mk (blk_below (g := gb108) (o := .cells #[.string ((rd_T43 l0 x4_1).f0), .slice A107_1 ((rd_T43 l0 x4_1).f1).length c107_1] 43 (0, 0)) (by (with_reducible repeat (first | refine blk_drewN ?_ _ | refine blk_drew ?_ | refine blk_alloc ?_ _)); refine blk_put (cs := #[.string ((rd_T43 l0 x4_1).f0), .slice none 0 0]) ?_ 1 _ rfl; (with_reducible repeat (first | refine blk_drewN ?_ _ | refine blk_drew ?_ | refine blk_alloc ?_ _)); refine blk_put (cs := #[.string (⟨#[]⟩ : ByteArray), .slice none 0 0]) ?_ 0 _ rfl; (with_reducible repeat (first | refine blk_drewN ?_ _ | refine blk_drew ?_ | refine blk_alloc ?_ _)); exact BK108.out) hb); have n1_ := Aside0.mk (below_step (by repeat (first | (with_reducible first | exact HB.out | apply below_alloc | apply pw_below_drewN | apply below_drew1 | refine below_set ?_ GE108.out) | exact HB.out)) hb); clear BK108; clear HB; have BK108 := n0_; have HB := n1_; clear n0_ n1_; (try clear hb); (try clear hb2); (try clear hk); (try clear hi))); try go_wp2_with (first | ((with_reducible refine gate_dst (N := 5) rfl ?_); refine box_event ?hg (N := 5) ?hd (cs := #[.string (⟨#[]⟩ : ByteArray), .slice none 0 0]) (t := 43) ?hr ?_; (case hd => rfl); (case hg => rfl); (case hr => first | (go_simp; done) | (go_simp; rfl)); intro gb108 hg w45 hbox hb; have n0_ := Aside0.mk (below_step (by repeat (first | (with_reducible first | exact HB.out | apply below_alloc | apply pw_below_drewN | apply below_drew1) | exact HB.out)) hb); have n1_ := Aside0.mk (hbox); have n2_ := Aside0.mk ((by rw [hg]; exact (below_size (by repeat (first | (with_reducible first | exact HB.out | apply below_alloc | apply pw_below_drewN | apply below_drew1) | exact HB.out))) : w.heap.size ≤ gb108)); have n3_ := Aside0.mk ((by rw [hg]; exact (below_size (by repeat (first | (with_reducible first | exact HB.out | apply below_alloc | apply pw_below_drewN | apply below_drew1) | exact HB.out))) : w.heap.size ≤ gb108)); clear HB; have HB := n0_; have BK108 := n1_; have GW108 := n2_; have GE108 := n3_; clear n0_ n1_ n2_ n3_; clear hb hbox hg; have hcz46_0 : w45.cell? ⟨gb108, 0, none⟩ = some (.string (⟨#[]⟩ : ByteArray)) := (blk_cell BK108.out 0).trans rfl; have hcz46_1 : w45.cell? ⟨gb108, 1, none⟩ = some (.slice none 0 0) := (blk_cell BK108.out 1).trans rfl; have hfz46_0 := blk_frozen BK108.out 0; have hfz46_1 := blk_frozen BK108.out 1) | (go_at_call 70; (with_reducible refine (truantref02_Word.calls k1 ((rd_T43 l0 x4_1).f0) false _ A5.out).mono ?_); clear A5; rintro e w47 ⟨rfl, hb⟩; have n0_ := Aside0.mk (blk_below (g := gb108) (o := .cells #[.string ((rd_T43 l0 x4_1).f0), .slice A107_1 ((rd_T43 l0 x4_1).f1).length c107_1] 43 (0, 0)) (by (with_reducible repeat (first | refine blk_drewN ?_ _ | refine blk_drew ?_ | refine blk_alloc ?_ _)); refine blk_put (cs := #[.string ((rd_T43 l0 x4_1).f0), .slice none 0 0]) ?_ 1 _ rfl; (with_reducible repeat (first | refine blk_drewN ?_ _ | refine blk_drew ?_ | refine blk_alloc ?_ _)); refine blk_put (cs := #[.string (⟨#[]⟩ : ByteArray), .slice none 0 0]) ?_ 0 _ rfl; (with_reducible repeat (first | refine blk_drewN ?_ _ | refine blk_drew ?_ | refine blk_alloc ?_ _)); exact BK108.out) hb); have n1_ := Aside0.mk (below_step (by repeat (first | (with_reducible first | exact HB.out | apply below_alloc | apply pw_below_drewN | apply below_drew1 | refine below_set ?_ GE108.out) | exact HB.out)) hb); clear BK108; clear HB; have BK108 := n0_; have HB := n1_; clear n0_ n1_; (try clear hb); (try clear hb2); (try clear hk); (try clear hi))))
       go_ret2
       exact ⟨by first | rfl | (simp [errW_none, errW_some] <;> rfl) | (simp [*, errW_none, errW_some] <;> rfl), by repeat (first | (with_reducible first | exact HB.out | apply below_alloc | apply pw_below_drewN | apply below_drew1 | refine below_set ?_ GE108.out) | exact HB.out)⟩
     ·rw [if_neg c4] at H
      exact absurd H (by simp)
    ·rw [if_neg c3] at H
     have c3b0 : decide (x4_1 < (l0.length : Int)) = false := decide_eq_false c3
     clear c3
     simp only [Option.some.injEq, Prod.mk.injEq] at H
     obtain ⟨rfl, rfl⟩ := H
     go_wp2
     repeat (go_quiet (fail); try go_wp2)
     go_ret2
     exact ⟨by first | rfl | (simp [errW_none, errW_some] <;> rfl) | (simp [*, errW_none, errW_some] <;> rfl), by repeat (first | (with_reducible first | exact HB.out | apply below_alloc | apply pw_below_drewN | apply below_drew1) | exact HB.out)⟩
/-! ### truantlaw06_great: function 32 -/
def truantlaw06_great.l0 : Nat → List (S43) → Int → Option (Bool)
 | 0, _, _ => none
 | k + 1, x0, x3 => if x3 < (x0.length : Int) then (if 0 ≤ x3 then (if (((rd_T43 x0 x3).f1).length : Int) > 12 then (some true) else (truantlaw06_great.l0 k x0 (wrap64 (x3 + 1)))) else (none)) else (some false)
def truantlaw06_great.f (k : Nat) (l0 : List (S43)) : Option (Bool) := if (l0.length : Int) > 16 then (some true) else (truantlaw06_great.l0 k l0 0)
theorem truantlaw06_great.mono_l : ∀ k, (∀ y0 y1, LeO (truantlaw06_great.l0 k y0 y1) (truantlaw06_great.l0 (k + 1) y0 y1))
 | 0 => fun _ _ r h => by simp [truantlaw06_great.l0] at h
 | k + 1 => by
  have ih0 := truantlaw06_great.mono_l k
  ·intro y0 y1
   unfold truantlaw06_great.l0
   repeat' first
   | (with_reducible exact ih0 _ _)
   | (with_reducible exact LeO.refl _)
   | (with_reducible exact LeO.none _)
   | (with_reducible refine LeO.ite ?_ ?_)
   | (with_reducible refine LeO.bind ?_ (fun _ => ?_))
   | exact ih0 _ _
   | exact LeO.none _
   | refine LeO.ite ?_ ?_
   | refine LeO.bind ?_ (fun _ => ?_)
theorem truantlaw06_great.mono : ∀ a0 k, LeO (truantlaw06_great.f k a0) (truantlaw06_great.f (k + 1) a0) := by
 intro a0 k
 have ih0 := truantlaw06_great.mono_l k
 unfold truantlaw06_great.f
 repeat' first
   | (with_reducible exact ih0 _ _)
   | (with_reducible exact LeO.refl _)
   | (with_reducible exact LeO.none _)
   | (with_reducible refine LeO.ite ?_ ?_)
   | (with_reducible refine LeO.bind ?_ (fun _ => ?_))
   | exact ih0 _ _
   | exact LeO.none _
   | refine LeO.ite ?_ ?_
   | refine LeO.bind ?_ (fun _ => ?_)
set_option maxHeartbeats 8000000 in
set_option maxRecDepth 100000 in
theorem truantlaw06_great.calls (k : Nat) (A0 : Option Addr) (c0 : Nat) (l0 : List (S43)) (r : Bool) (w : World) (hr0 : Kd.C k43 w A0 l0.length l0) (hc0 : l0.length ≤ c0) (h : truantlaw06_great.f k l0 = some r) :
  Calls Try.prog 32 #[.slice A0 l0.length c0] w fun e w' => e = .returned (.bool r) ∧ Drawn0 w w' := by
 have HR0 := Aside0.mk hr0
 have HC0 := Aside0.mk hc0
 clear hr0 hc0
 have H : (if (l0.length : Int) > 16 then (some true) else (truantlaw06_great.l0 k l0 0)) = some r := h
 clear h
 by_cases c2 : (l0.length : Int) > 16
 ·rw [if_pos c2] at H
  have c2b0 : decide (16 < (l0.length : Int)) = true := decide_eq_true c2
  have c2b1 : decide (16 < l0.length) = true := decide_eq_true (by omega)
  clear c2
  obtain rfl := Option.some.inj H
  go_enter Try.func32, Try.ntmps32
  go_wp2
  go_ret
  exact ⟨by first | rfl | (simp; done) | (simp [*]; done), by repeat (first | exact Drawn0.refl _ | apply Drawn0.step)⟩
 ·rw [if_neg c2] at H
  have c2b0 : decide (16 < (l0.length : Int)) = false := decide_eq_false c2
  have c2b1 : decide (16 < l0.length) = false := decide_eq_false (by omega)
  clear c2
  have H' := Aside0.mk H
  clear H
  go_enter Try.func32, Try.ntmps32
  go_wp2
  go_loopg [3] k (fun kq v3 w' => ∃ (x3_1 : Int), v3 = .int .i64 x3_1 ∧ Aside0 (truantlaw06_great.l0 kq l0 x3_1 = some r) ∧ Aside0 (kq ≤ k) ∧ Drawn0 w w')
  case atStart => exact ⟨(0), (by first | rfl | (simp; done) | (simp [*]; done)), H', ⟨Nat.le_refl _⟩, by repeat (first | exact Drawn0.refl _ | apply Drawn0.step)⟩
  case round =>
   clear H'
   try clear c2
   try clear c2b0
   try clear c2b1
   try clear p2
   obtain ⟨x3_1, rfl, HA, HK1, ⟨m1, rfl⟩⟩ := hrel
   cases gk with
   | zero => exact absurd HA.out (by simp [truantlaw06_great.l0])
   | succ k1 =>
    have H := HA.out
    clear HA
    simp only [truantlaw06_great.l0] at H
    by_cases c3 : x3_1 < (l0.length : Int)
    ·rw [if_pos c3] at H
     have c3b0 : decide (x3_1 < (l0.length : Int)) = true := decide_eq_true c3
     clear c3
     by_cases c4 : 0 ≤ x3_1
     ·rw [if_pos c4] at H
      have c4b0 : decide (0 ≤ x3_1) = true := decide_eq_true c4
      clear c4
      by_cases c5 : (((rd_T43 l0 x3_1).f1).length : Int) > 12
      ·rw [if_pos c5] at H
       have c5b0 : decide (12 < (((rd_T43 l0 x3_1).f1).length : Int)) = true := decide_eq_true c5
       have c5b1 : decide (12 < ((rd_T43 l0 x3_1).f1).length) = true := decide_eq_true (by omega)
       clear c5
       obtain rfl := Option.some.inj H
       have p299 : 0 ≤ (x3_1 : Int) := of_decide_eq_true (by first | (with_reducible assumption) | assumption)
       have q299 : x3_1 < (l0.length : Int) := of_decide_eq_true (by first | (with_reducible assumption) | assumption)
       obtain ⟨ad299, A299_1, c299_1, e299, hx299_0, hx299_1, hl299_1, hi299_1⟩ := at_T43 HR0.out x3_1 p299 q299
       cases e299
       have HR299_1 := Aside0.mk hi299_1
       have HC299_1 := Aside0.mk hl299_1
       clear hi299_1 hl299_1
       replace p299 := eq_true p299
       replace q299 := eq_true q299
       go_wp2
       go_ret
       exact ⟨by first | rfl | (simp; done) | (simp [*]; done), by repeat (first | exact Drawn0.refl _ | apply Drawn0.step)⟩
      ·rw [if_neg c5] at H
       have c5b0 : decide (12 < (((rd_T43 l0 x3_1).f1).length : Int)) = false := decide_eq_false c5
       have c5b1 : decide (12 < ((rd_T43 l0 x3_1).f1).length) = false := decide_eq_false (by omega)
       clear c5
       have H' := Aside0.mk H
       clear H
       have p299 : 0 ≤ (x3_1 : Int) := of_decide_eq_true (by first | (with_reducible assumption) | assumption)
       have q299 : x3_1 < (l0.length : Int) := of_decide_eq_true (by first | (with_reducible assumption) | assumption)
       obtain ⟨ad299, A299_1, c299_1, e299, hx299_0, hx299_1, hl299_1, hi299_1⟩ := at_T43 HR0.out x3_1 p299 q299
       cases e299
       have HR299_1 := Aside0.mk hi299_1
       have HC299_1 := Aside0.mk hl299_1
       clear hi299_1 hl299_1
       replace p299 := eq_true p299
       replace q299 := eq_true q299
       go_wp2
       go_roundg k1
       case measure => have := HK1.out; omega
       case rel => exact ⟨(wrap64 (x3_1 + 1)), (by first | rfl | (simp; done) | (simp [*]; done)), H', ⟨by have := HK1.out; omega⟩, by repeat (first | exact Drawn0.refl _ | apply Drawn0.step)⟩
     ·rw [if_neg c4] at H
      exact absurd H (by simp)
    ·rw [if_neg c3] at H
     have c3b0 : decide (x3_1 < (l0.length : Int)) = false := decide_eq_false c3
     clear c3
     obtain rfl := Option.some.inj H
     go_wp2
     go_ret
     exact ⟨by first | rfl | (simp; done) | (simp [*]; done), by repeat (first | exact Drawn0.refl _ | apply Drawn0.step)⟩
/-! ### kind_Elem: function 17 -/
def kind_Elem.f (k : Nat) (a0 : ByteArray) : Option (ByteArray × Bool) := (strings_CutPrefix.f a0 (⟨#[42]⟩ : ByteArray)).bind fun bt154 => (if bt154.2 = true then ((lex_IsWord.f k bt154.1).bind fun t156 => (if t156 = true then (some (bt154.1, true)) else (some ((⟨#[]⟩ : ByteArray), false)))) else (some ((⟨#[]⟩ : ByteArray), false)))
theorem kind_Elem.mono : ∀ a0 k, LeO (kind_Elem.f k a0) (kind_Elem.f (k + 1) a0) := by
 intro a0 k
 unfold kind_Elem.f
 repeat' first
   | (with_reducible exact lex_IsWord.mono _ _)
   | (with_reducible exact LeO.refl _)
   | (with_reducible exact LeO.none _)
   | (with_reducible refine LeO.ite ?_ ?_)
   | (with_reducible refine LeO.bind ?_ (fun _ => ?_))
   | exact lex_IsWord.mono _ _
   | exact LeO.none _
   | refine LeO.ite ?_ ?_
   | refine LeO.bind ?_ (fun _ => ?_)
set_option maxHeartbeats 8000000 in
set_option maxRecDepth 100000 in
theorem kind_Elem.calls (k : Nat) (a0 : ByteArray) (r1 : ByteArray) (r2 : Bool) (w : World) (h : kind_Elem.f k a0 = some (r1, r2)) :
  Calls Try.prog 17 #[.string a0] w fun e w' => e = .returned (.tuple #[.string r1, .bool r2]) ∧ Below w.heap.size w w' := by
 have HB := Aside0.mk (Below.refl w.heap.size w)
 have H : ((strings_CutPrefix.f a0 (⟨#[42]⟩ : ByteArray)).bind fun bt154 => (if bt154.2 = true then ((lex_IsWord.f k bt154.1).bind fun t156 => (if t156 = true then (some (bt154.1, true)) else (some ((⟨#[]⟩ : ByteArray), false)))) else (some ((⟨#[]⟩ : ByteArray), false)))) = some (r1, r2) := h
 clear h
 replace H := Option.bind_eq_some_iff.mp H
 obtain ⟨⟨t154, t155⟩, A20, H⟩ := H
 replace H : (if t155 = true then ((lex_IsWord.f k t154).bind fun t156 => (if t156 = true then (some (t154, true)) else (some ((⟨#[]⟩ : ByteArray), false)))) else (some ((⟨#[]⟩ : ByteArray), false))) = some (r1, r2) := H
 have A2 := Aside0.mk A20
 clear A20
 by_cases c3 : t155 = true
 ·subst c3
  have H1 : ((lex_IsWord.f k t154).bind fun t156 => (if t156 = true then (some (t154, true)) else (some ((⟨#[]⟩ : ByteArray), false)))) = some (r1, r2) := by rw [if_pos rfl] at H; exact H
  clear H
  have H := H1
  clear H1
  replace H := Option.bind_eq_some_iff.mp H
  obtain ⟨t156, A40, H⟩ := H
  replace H : (if t156 = true then (some (t154, true)) else (some ((⟨#[]⟩ : ByteArray), false))) = some (r1, r2) := H
  have A4 := Aside0.mk A40
  clear A40
  by_cases c5 : t156 = true
  ·subst c5
   have H1 : (some (t154, true)) = some (r1, r2) := by rw [if_pos rfl] at H; exact H
   clear H
   have H := H1
   clear H1
   simp only [Option.some.injEq, Prod.mk.injEq] at H
   obtain ⟨rfl, rfl⟩ := H
   go_enter Try.func17, Try.ntmps17
   go_wp2_with (first | ((with_reducible refine gate_callee (f := 71) rfl ?_); refine goesL_ (some 8) rfl rfl Try.func71 (by kernel_rfl) rfl #[.string a0, .string (⟨#[42]⟩ : ByteArray)] rfl (by (try simp only [List.map_toArray, List.map_cons, List.map_nil]); first | done | rfl | (simp only [List.length_drop, List.length_take]; rfl)) ?_; (with_reducible refine (strings_CutPrefix.calls a0 (⟨#[42]⟩ : ByteArray) t154 true _ A2.out).mono ?_); rintro e w' ⟨rfl, ⟨nd, rfl⟩⟩; refine ⟨_, rfl, ?_⟩) | (go_at_call 72; (with_reducible refine (lex_IsWord.calls k t154 true _ A4.out).mono ?_); rintro e w6 ⟨rfl, hb⟩; have n0_ := Aside0.mk (below_step (by repeat (first | (with_reducible first | exact HB.out | apply below_alloc | apply pw_below_drewN | apply below_drew1) | exact HB.out)) hb); clear HB; have HB := n0_; clear n0_; (try clear hb); (try clear hb2); (try clear hk); (try clear hi)))
   go_ret2
   exact ⟨by first | rfl | (simp [errW_none, errW_some] <;> rfl) | (simp [*, errW_none, errW_some] <;> rfl), by repeat (first | (with_reducible first | exact HB.out | apply below_alloc | apply pw_below_drewN | apply below_drew1) | exact HB.out)⟩
  ·replace c5 := Bool.eq_false_iff.mpr c5
   subst c5
   have H1 : (some ((⟨#[]⟩ : ByteArray), false)) = some (r1, r2) := by rw [if_neg (show ¬ (false = true) by decide)] at H; exact H
   clear H
   have H := H1
   clear H1
   simp only [Option.some.injEq, Prod.mk.injEq] at H
   obtain ⟨rfl, rfl⟩ := H
   go_enter Try.func17, Try.ntmps17
   go_wp2_with (first | ((with_reducible refine gate_callee (f := 71) rfl ?_); refine goesL_ (some 8) rfl rfl Try.func71 (by kernel_rfl) rfl #[.string a0, .string (⟨#[42]⟩ : ByteArray)] rfl (by (try simp only [List.map_toArray, List.map_cons, List.map_nil]); first | done | rfl | (simp only [List.length_drop, List.length_take]; rfl)) ?_; (with_reducible refine (strings_CutPrefix.calls a0 (⟨#[42]⟩ : ByteArray) t154 true _ A2.out).mono ?_); rintro e w' ⟨rfl, ⟨nd, rfl⟩⟩; refine ⟨_, rfl, ?_⟩) | (go_at_call 72; (with_reducible refine (lex_IsWord.calls k t154 false _ A4.out).mono ?_); rintro e w7 ⟨rfl, hb⟩; have n0_ := Aside0.mk (below_step (by repeat (first | (with_reducible first | exact HB.out | apply below_alloc | apply pw_below_drewN | apply below_drew1) | exact HB.out)) hb); clear HB; have HB := n0_; clear n0_; (try clear hb); (try clear hb2); (try clear hk); (try clear hi)))
   go_ret2
   exact ⟨by first | rfl | (simp [errW_none, errW_some] <;> rfl) | (simp [*, errW_none, errW_some] <;> rfl), by repeat (first | (with_reducible first | exact HB.out | apply below_alloc | apply pw_below_drewN | apply below_drew1) | exact HB.out)⟩
 ·replace c3 := Bool.eq_false_iff.mpr c3
  subst c3
  have H1 : (some ((⟨#[]⟩ : ByteArray), false)) = some (r1, r2) := by rw [if_neg (show ¬ (false = true) by decide)] at H; exact H
  clear H
  have H := H1
  clear H1
  simp only [Option.some.injEq, Prod.mk.injEq] at H
  obtain ⟨rfl, rfl⟩ := H
  go_enter Try.func17, Try.ntmps17
  go_wp2_with (first | ((with_reducible refine gate_callee (f := 71) rfl ?_); refine goesL_ (some 8) rfl rfl Try.func71 (by kernel_rfl) rfl #[.string a0, .string (⟨#[42]⟩ : ByteArray)] rfl (by (try simp only [List.map_toArray, List.map_cons, List.map_nil]); first | done | rfl | (simp only [List.length_drop, List.length_take]; rfl)) ?_; (with_reducible refine (strings_CutPrefix.calls a0 (⟨#[42]⟩ : ByteArray) t154 false _ A2.out).mono ?_); rintro e w' ⟨rfl, ⟨nd, rfl⟩⟩; refine ⟨_, rfl, ?_⟩))
  go_ret2
  exact ⟨by first | rfl | (simp [errW_none, errW_some] <;> rfl) | (simp [*, errW_none, errW_some] <;> rfl), by repeat (first | (with_reducible first | exact HB.out | apply below_alloc | apply pw_below_drewN | apply below_drew1) | exact HB.out)⟩
/-! ### kind_Links: function 26 -/
def kind_Links.l0 : Nat → List Int → List (S48) → Int → Int → Option (List Int)
 | 0, _, _, _, _ => none
 | k + 1, x3, x9, x10, x11 => if x11 < x10 then (if 0 ≤ x11 then (if x11 < (x9.length : Int) then ((kind_Elem.f k ((rd_T48 x9 x11).f1)).bind fun bt160 => (if bt160.2 = true then (if x3.length < 17592186044416 then (kind_Links.l0 k (x3 ++ [x11]) x9 x10 (wrap64 (x11 + 1))) else (none)) else (kind_Links.l0 k x3 x9 x10 (wrap64 (x11 + 1))))) else (none)) else (none)) else (some x3)
def kind_Links.f (k : Nat) (a0_0 : ByteArray) (l0_1 : List (S48)) : Option (List Int) := kind_Links.l0 k ([] : List Int) l0_1 (l0_1.length : Int) 0
theorem kind_Links.mono_l : ∀ k, (∀ y0 y1 y2 y3, LeO (kind_Links.l0 k y0 y1 y2 y3) (kind_Links.l0 (k + 1) y0 y1 y2 y3))
 | 0 => fun _ _ _ _ r h => by simp [kind_Links.l0] at h
 | k + 1 => by
  have ih0 := kind_Links.mono_l k
  ·intro y0 y1 y2 y3
   unfold kind_Links.l0
   repeat' first
   | (with_reducible exact ih0 _ _ _ _)
   | (with_reducible exact kind_Elem.mono _ _)
   | (with_reducible exact LeO.refl _)
   | (with_reducible exact LeO.none _)
   | (with_reducible refine LeO.ite ?_ ?_)
   | (with_reducible refine LeO.bind ?_ (fun _ => ?_))
   | exact ih0 _ _ _ _
   | exact kind_Elem.mono _ _
   | exact LeO.none _
   | refine LeO.ite ?_ ?_
   | refine LeO.bind ?_ (fun _ => ?_)
theorem kind_Links.mono : ∀ a0 a1 k, LeO (kind_Links.f k a0 a1) (kind_Links.f (k + 1) a0 a1) := by
 intro a0 a1 k
 have ih0 := kind_Links.mono_l k
 unfold kind_Links.f
 repeat' first
   | (with_reducible exact ih0 _ _ _ _)
   | (with_reducible exact kind_Elem.mono _ _)
   | (with_reducible exact LeO.refl _)
   | (with_reducible exact LeO.none _)
   | (with_reducible refine LeO.ite ?_ ?_)
   | (with_reducible refine LeO.bind ?_ (fun _ => ?_))
   | exact ih0 _ _ _ _
   | exact kind_Elem.mono _ _
   | exact LeO.none _
   | refine LeO.ite ?_ ?_
   | refine LeO.bind ?_ (fun _ => ?_)
set_option maxHeartbeats 8000000 in
set_option maxRecDepth 100000 in
theorem kind_Links.calls (k : Nat) (a0_0 : ByteArray) (A0_1 : Option Addr) (c0_1 : Nat) (l0_1 : List (S48)) (r : List Int) (w : World) (hr0_1 : Kd.C k48 w A0_1 l0_1.length l0_1) (hc0_1 : l0_1.length ≤ c0_1) (h : kind_Links.f k a0_0 l0_1 = some r) :
  Calls Try.prog 26 #[.agg #[.string a0_0, .slice A0_1 l0_1.length c0_1]] w fun e w' => ∃ v0_ : Value, e = .returned (v0_) ∧ Kd.R (Kd.int .i64) 3 w' w.heap.size (fun _ => True) v0_ r ∧ Below w.heap.size w w' := by
 have hu43 := Try.underlying43
 have hu48 := Try.underlying48
 have HR0_1 := Aside0.mk hr0_1
 have HC0_1 := Aside0.mk hc0_1
 clear hr0_1 hc0_1
 have HB := Aside0.mk (Below.refl w.heap.size w)
 have H : (kind_Links.l0 k ([] : List Int) l0_1 (l0_1.length : Int) 0) = some r := h
 clear h
 have H' := Aside0.mk H
 clear H
 go_enter Try.func26, Try.ntmps26
 go_wp2_with (first | ((with_reducible refine gate_dst (N := 1) rfl ?_); refine box_event ?hg (N := 1) ?hd (cs := #[.string a0_0, .slice A0_1 l0_1.length c0_1]) (t := 43) ?hr ?_; (case hd => rfl); (case hg => rfl); (case hr => first | (go_simp; done) | (go_simp; rfl)); intro gb157 hg w2 hbox hb; have n0_ := Aside0.mk (below_step (by repeat (first | (with_reducible first | exact HB.out | apply below_alloc | apply pw_below_drewN | apply below_drew1) | exact HB.out)) hb); have n1_ := Aside0.mk (hbox); have n2_ := Aside0.mk ((by rw [hg]; exact (below_size (by repeat (first | (with_reducible first | exact HB.out | apply below_alloc | apply pw_below_drewN | apply below_drew1) | exact HB.out))) : w.heap.size ≤ gb157)); have n3_ := Aside0.mk ((by rw [hg]; exact (below_size (by repeat (first | (with_reducible first | exact HB.out | apply below_alloc | apply pw_below_drewN | apply below_drew1) | exact HB.out))) : w.heap.size ≤ gb157)); clear HB; have HB := n0_; have BK157 := n1_; have GW157 := n2_; have GE157 := n3_; clear n0_ n1_ n2_ n3_; clear hb hbox hg; have hcz3_0 : w2.cell? ⟨gb157, 0, none⟩ = some (.string a0_0) := (blk_cell BK157.out 0).trans rfl; have hcz3_1 : w2.cell? ⟨gb157, 1, none⟩ = some (.slice A0_1 l0_1.length c0_1) := (blk_cell BK157.out 1).trans rfl; have hfz3_0 := blk_frozen BK157.out 0; have hfz3_1 := blk_frozen BK157.out 1))
 go_loopg [3, 11] k (fun kq v3 v11 w' => ∃ (x3_1 : List Int) (x11_1 : Int), v11 = .int .i64 x11_1 ∧ Aside0 (kind_Links.l0 kq x3_1 l0_1 (l0_1.length : Int) x11_1 = some r) ∧ Aside0 (kq ≤ k) ∧ Aside0 (Kd.R (Kd.int .i64) 3 w' w.heap.size (fun _ => True) v3 x3_1) ∧ Aside0 (w'.heap[gb157]? = some (.cells #[.string a0_0, (.slice A0_1 l0_1.length c0_1)] 43 (0, 0))) ∧ Aside0 (Below w.heap.size w w'))
 case atStart => exact ⟨(([] : List Int)), (0), (by first | rfl | (simp; done) | (simp [*]; done)), H', ⟨Nat.le_refl _⟩, ⟨by first | exact Kd.R_nil _ _ _ _ _ | exact Kd.N_nil _ _ _ _ _ | exact Kd.V_nil _ _ _ _ _ | exact Kd.Q_nil _ _ _ _ _ | exact Kd.S_nil _ _ _ _ _⟩, ⟨by (with_reducible repeat (first | refine blk_drewN ?_ _ | refine blk_drew ?_ | refine blk_alloc ?_ _)); exact BK157.out⟩, ⟨by repeat (first | (with_reducible first | exact HB.out | apply below_alloc | apply pw_below_drewN | apply below_drew1 | refine below_set ?_ GE157.out) | exact HB.out)⟩⟩
 case round =>
  clear H'
  try clear c2
  try clear p2
  try clear hcz3_0
  try clear hcz3_1
  try clear hfz3_0
  try clear hfz3_1
  obtain ⟨x3_1, x11_1, rfl, HA, HK1, HO_3, BK157, HB⟩ := hrel
  cases gk with
  | zero => exact absurd HA.out (by simp [kind_Links.l0])
  | succ k1 =>
   have H := HA.out
   clear HA
   simp only [kind_Links.l0] at H
   by_cases c4 : x11_1 < (l0_1.length : Int)
   ·rw [if_pos c4] at H
    have c4b0 : decide (x11_1 < (l0_1.length : Int)) = true := decide_eq_true c4
    clear c4
    by_cases c5 : 0 ≤ x11_1
    ·rw [if_pos c5] at H
     have c5b0 : decide (0 ≤ x11_1) = true := decide_eq_true c5
     clear c5
     by_cases c6 : x11_1 < (l0_1.length : Int)
     ·rw [if_pos c6] at H
      have c6b0 : decide (x11_1 < (l0_1.length : Int)) = true := decide_eq_true c6
      clear c6
      replace H := Option.bind_eq_some_iff.mp H
      obtain ⟨⟨t160, t161⟩, A70, H⟩ := H
      replace H : (if t161 = true then (if x3_1.length < 17592186044416 then (kind_Links.l0 k1 (x3_1 ++ [x11_1]) l0_1 (l0_1.length : Int) (wrap64 (x11_1 + 1))) else (none)) else (kind_Links.l0 k1 x3_1 l0_1 (l0_1.length : Int) (wrap64 (x11_1 + 1)))) = some r := H
      have A7 := Aside0.mk A70
      clear A70
      by_cases c8 : t161 = true
      ·subst c8
       have H1 : (if x3_1.length < 17592186044416 then (kind_Links.l0 k1 (x3_1 ++ [x11_1]) l0_1 (l0_1.length : Int) (wrap64 (x11_1 + 1))) else (none)) = some r := by rw [if_pos rfl] at H; exact H
       clear H
       have H := H1
       clear H1
       by_cases c9 : x3_1.length < 17592186044416
       ·rw [if_pos c9] at H
        have LMc9 := Aside0.mk c9
        clear c9
        obtain ⟨y162, hy162⟩ : ∃ y_ : List Int, y_ = (x3_1 ++ [x11_1]) := ⟨_, rfl⟩
        replace H : (kind_Links.l0 k1 y162 l0_1 (l0_1.length : Int) (wrap64 (x11_1 + 1))) = some r := by first | (rw [hy162]; with_reducible exact H) | (have H2_ := (Option.bind_some _ _).symm.trans H; rw [hy162]; with_reducible exact H2_) | (have H2_ := (Option.bind_some _ _).symm.trans H; with_reducible exact H2_) | with_reducible exact H | (rw [hy162]; exact H) | exact H
        have Ny162 := Aside0.mk hy162
        clear hy162
        have H' := Aside0.mk H
        clear H
        have p158 : 0 ≤ (x11_1 : Int) := of_decide_eq_true (by first | (with_reducible assumption) | assumption)
        have q158 : x11_1 < (l0_1.length : Int) := of_decide_eq_true (by first | (with_reducible assumption) | assumption)
        obtain ⟨ad158, e158, hx158_0, hx158_1⟩ := at_T48 HR0_1.out x11_1 p158 q158
        cases e158
        replace hx158_0 := (HB.out.cell (World.block_lt_of_cell? w _ hx158_0)).trans hx158_0
        replace hx158_1 := (HB.out.cell (World.block_lt_of_cell? w _ hx158_1)).trans hx158_1
        replace p158 := eq_true p158
        replace q158 := eq_true q158
        go_wp2_with (first | ((with_reducible refine gate_dst (N := 5) rfl ?_); refine box_event ?hg (N := 5) ?hd (cs := #[.string (⟨#[]⟩ : ByteArray), .string (⟨#[]⟩ : ByteArray)]) (t := 48) ?hr ?_; (case hd => rfl); (case hg => rfl); (case hr => first | (go_simp; done) | (go_simp; rfl)); intro gb159 hg w10 hbox hb; have n0_ := Aside0.mk (Kd.R_below (by (with_reducible repeat (first | apply Kd.R_alloc | apply Kd.R_drewN | apply Kd.R_drew)); exact HO_3.out) hb); have n1_ := Aside0.mk (blk_below (g := gb157) (o := .cells #[.string a0_0, .slice (some ad158) l0_1.length c0_1] 43 (0, 0)) (by (with_reducible repeat (first | refine blk_drewN ?_ _ | refine blk_drew ?_ | refine blk_alloc ?_ _)); exact BK157.out) hb); have n2_ := Aside0.mk (below_step (by repeat (first | (with_reducible first | exact HB.out | apply below_alloc | apply pw_below_drewN | apply below_drew1 | refine below_set ?_ GE157.out) | exact HB.out)) hb); have n3_ := Aside0.mk (hbox); have n4_ := Aside0.mk ((by rw [hg]; exact (below_size (by repeat (first | (with_reducible first | exact HB.out | apply below_alloc | apply pw_below_drewN | apply below_drew1 | refine below_set ?_ GE157.out) | exact HB.out))) : w.heap.size ≤ gb159)); have n5_ := Aside0.mk ((by rw [hg]; exact (below_size (by repeat (first | (with_reducible first | exact HB.out | apply below_alloc | apply pw_below_drewN | apply below_drew1 | refine below_set ?_ GE157.out) | exact HB.out))) : w.heap.size ≤ gb159)); have n6_ := Aside0.mk ((by rw [hg]; exact Nat.ne_of_lt (blk_lt (g := gb157) (o := .cells #[.string a0_0, .slice (some ad158) l0_1.length c0_1] 43 (0, 0)) (by (with_reducible repeat (first | refine blk_drewN ?_ _ | refine blk_drew ?_ | refine blk_alloc ?_ _)); exact BK157.out)) : gb157 ≠ gb159)); have n7_ := Aside0.mk ((by rw [hg]; exact Nat.ne_of_gt (blk_lt (g := gb157) (o := .cells #[.string a0_0, .slice (some ad158) l0_1.length c0_1] 43 (0, 0)) (by (with_reducible repeat (first | refine blk_drewN ?_ _ | refine blk_drew ?_ | refine blk_alloc ?_ _)); exact BK157.out)) : gb159 ≠ gb157)); clear HO_3; clear BK157; clear HB; have HO_3 := n0_; have BK157 := n1_; have HB := n2_; have BK159 := n3_; have GW159 := n4_; have GE159 := n5_; have NB157_159 := n6_; have NB159_157 := n7_; clear n0_ n1_ n2_ n3_ n4_ n5_ n6_ n7_; clear hb hbox hg; have hnb11 := NB159_157.out; have hnc11 := NB157_159.out; have hcz12_0 : w10.cell? ⟨gb159, 0, none⟩ = some (.string (⟨#[]⟩ : ByteArray)) := (blk_cell BK159.out 0).trans rfl; have hcz12_1 : w10.cell? ⟨gb159, 1, none⟩ = some (.string (⟨#[]⟩ : ByteArray)) := (blk_cell BK159.out 1).trans rfl; have hfz12_0 := blk_frozen BK159.out 0; have hfz12_1 := blk_frozen BK159.out 1) | ((with_reducible refine gate_callee (f := 17) rfl ?_); refine goesL_ (some 19) rfl rfl Try.func17 (by kernel_rfl) rfl #[.string ((rd_T48 l0_1 x11_1).f1)] rfl (by (try simp only [List.map_toArray, List.map_cons, List.map_nil]); first | done | rfl | (simp only [List.length_drop, List.length_take]; rfl)) ?_; (with_reducible refine (kind_Elem.calls k1 ((rd_T48 l0_1 x11_1).f1) t160 true _ A7.out).mono ?_); rintro e w13 ⟨rfl, hb⟩; refine ⟨_, rfl, ?_⟩; have n0_ := Aside0.mk (Kd.R_below (by (with_reducible repeat (first | apply Kd.R_alloc | apply Kd.R_drewN | apply Kd.R_drew)); exact (Kd.R_mono (Kd.R_far (p := ⟨gb159, 1, none⟩) (Kd.R_far (p := ⟨gb159, 0, none⟩) (Kd.R_types HO_3.out BK159.out (by decide)) (fun _ hk => hk.2) (.string ((rd_T48 l0_1 x11_1).f0))) (fun _ hk => hk.2) (.string ((rd_T48 l0_1 x11_1).f1))) (fun _ h_ => h_.1))) hb); have n1_ := Aside0.mk (blk_below (g := gb157) (o := .cells #[.string a0_0, .slice (some ad158) l0_1.length c0_1] 43 (0, 0)) (by (with_reducible repeat (first | refine blk_drewN ?_ _ | refine blk_drew ?_ | refine blk_alloc ?_ _)); refine blk_far ?_ NB157_159.out _; (with_reducible repeat (first | refine blk_drewN ?_ _ | refine blk_drew ?_ | refine blk_alloc ?_ _)); refine blk_far ?_ NB157_159.out _; (with_reducible repeat (first | refine blk_drewN ?_ _ | refine blk_drew ?_ | refine blk_alloc ?_ _)); exact BK157.out) hb); have n2_ := Aside0.mk (blk_below (g := gb159) (o := .cells #[.string ((rd_T48 l0_1 x11_1).f0), .string ((rd_T48 l0_1 x11_1).f1)] 48 (0, 0)) (by (with_reducible repeat (first | refine blk_drewN ?_ _ | refine blk_drew ?_ | refine blk_alloc ?_ _)); refine blk_put (cs := #[.string ((rd_T48 l0_1 x11_1).f0), .string (⟨#[]⟩ : ByteArray)]) ?_ 1 _ rfl; (with_reducible repeat (first | refine blk_drewN ?_ _ | refine blk_drew ?_ | refine blk_alloc ?_ _)); refine blk_put (cs := #[.string (⟨#[]⟩ : ByteArray), .string (⟨#[]⟩ : ByteArray)]) ?_ 0 _ rfl; (with_reducible repeat (first | refine blk_drewN ?_ _ | refine blk_drew ?_ | refine blk_alloc ?_ _)); exact BK159.out) hb); have n3_ := Aside0.mk (below_step (by repeat (first | (with_reducible first | exact HB.out | apply below_alloc | apply pw_below_drewN | apply below_drew1 | refine below_set ?_ GE157.out | refine below_set ?_ GE159.out) | exact HB.out)) hb); clear HO_3; clear BK157; clear BK159; clear HB; have HO_3 := n0_; have BK157 := n1_; have BK159 := n2_; have HB := n3_; clear n0_ n1_ n2_ n3_; (try clear hb); (try clear hb2); (try clear hk); (try clear hi)) | ((with_reducible refine gate_builtin (b := .append) (xs := #[.tmp 23, .tmp 25]) rfl ?_); at_builtin; refine Kd.R_append (Kd.int .i64) (w0 := w) w.heap.size rfl (.tmp 23) (.tmp 25) 45 3 (.int .i64 0) 8 rfl Try.underlying45 info3 rfl (by decide) (by omega) u3 x3_1 x11_1 [.int .i64 x11_1] (fun _ => True) (fun _ => False) rfl rfl ?aP (fun _ hk => hk.elim) ?aF ?aO ?aB ?aS ?aL ?_; (case aP => exact rfl); (case aB => exact (by repeat (first | (with_reducible first | exact HB.out | apply below_alloc | apply pw_below_drewN | apply below_drew1 | refine below_set ?_ GE157.out | refine below_set ?_ GE159.out) | exact HB.out))); (case aF => exact (fun _ _ => trivial)); (case aO => exact (by (with_reducible repeat (first | apply Kd.R_alloc | apply Kd.R_drewN | apply Kd.R_drew)); exact HO_3.out)); (case aS => exact (below_size (by repeat (first | (with_reducible first | exact HB.out | apply below_alloc | apply pw_below_drewN | apply below_drew1 | refine below_set ?_ GE157.out | refine below_set ?_ GE159.out) | exact HB.out)))); (case aL => have := LMc9.out; omega); intro v163 w14 ho hb hg hat; rw [← Ny162.out] at ho; have n0_ := Aside0.mk (blk_grown (g := gb157) (o := .cells #[.string a0_0, .slice (some ad158) l0_1.length c0_1] 43 (0, 0)) (by (with_reducible repeat (first | refine blk_drewN ?_ _ | refine blk_drew ?_ | refine blk_alloc ?_ _)); exact BK157.out) hg (Kd.R_ne HO_3.out BK157.out (by decide))); have n1_ := Aside0.mk (blk_grown (g := gb159) (o := .cells #[.string ((rd_T48 l0_1 x11_1).f0), .string ((rd_T48 l0_1 x11_1).f1)] 48 (0, 0)) (by (with_reducible repeat (first | refine blk_drewN ?_ _ | refine blk_drew ?_ | refine blk_alloc ?_ _)); exact BK159.out) hg (Kd.R_ne HO_3.out BK159.out (by decide))); have n2_ := Aside0.mk (hb); have n3_ := Aside0.mk (ho); clear BK157; clear BK159; clear HB; clear HO_3; have BK157 := n0_; have BK159 := n1_; have HB := n2_; have HO164 := n3_; clear n0_ n1_ n2_ n3_; clear ho hb hg hat))
        go_roundg k1
        case measure => have := HK1.out; omega
        case rel => exact ⟨(y162), (wrap64 (x11_1 + 1)), (by first | rfl | (simp; done) | (simp [*]; done)), H', ⟨by have := HK1.out; omega⟩, ⟨by (with_reducible repeat (first | apply Kd.R_alloc | apply Kd.R_drewN | apply Kd.R_drew)); exact HO164.out⟩, ⟨by (with_reducible repeat (first | refine blk_drewN ?_ _ | refine blk_drew ?_ | refine blk_alloc ?_ _)); exact BK157.out⟩, ⟨by repeat (first | (with_reducible first | exact HB.out | apply below_alloc | apply pw_below_drewN | apply below_drew1 | refine below_set ?_ GE157.out | refine below_set ?_ GE159.out) | exact HB.out)⟩⟩
       ·rw [if_neg c9] at H
        exact absurd H (by simp)
      ·replace c8 := Bool.eq_false_iff.mpr c8
       subst c8
       have H1 : (kind_Links.l0 k1 x3_1 l0_1 (l0_1.length : Int) (wrap64 (x11_1 + 1))) = some r := by rw [if_neg (show ¬ (false = true) by decide)] at H; exact H
       clear H
       have H := H1
       clear H1
       have H' := Aside0.mk H
       clear H
       have p158 : 0 ≤ (x11_1 : Int) := of_decide_eq_true (by first | (with_reducible assumption) | assumption)
       have q158 : x11_1 < (l0_1.length : Int) := of_decide_eq_true (by first | (with_reducible assumption) | assumption)
       obtain ⟨ad158, e158, hx158_0, hx158_1⟩ := at_T48 HR0_1.out x11_1 p158 q158
       cases e158
       replace hx158_0 := (HB.out.cell (World.block_lt_of_cell? w _ hx158_0)).trans hx158_0
       replace hx158_1 := (HB.out.cell (World.block_lt_of_cell? w _ hx158_1)).trans hx158_1
       replace p158 := eq_true p158
       replace q158 := eq_true q158
       go_wp2_with (first | ((with_reducible refine gate_dst (N := 5) rfl ?_); refine box_event ?hg (N := 5) ?hd (cs := #[.string (⟨#[]⟩ : ByteArray), .string (⟨#[]⟩ : ByteArray)]) (t := 48) ?hr ?_; (case hd => rfl); (case hg => rfl); (case hr => first | (go_simp; done) | (go_simp; rfl)); intro gb159 hg w15 hbox hb; have n0_ := Aside0.mk (Kd.R_below (by (with_reducible repeat (first | apply Kd.R_alloc | apply Kd.R_drewN | apply Kd.R_drew)); exact HO_3.out) hb); have n1_ := Aside0.mk (blk_below (g := gb157) (o := .cells #[.string a0_0, .slice (some ad158) l0_1.length c0_1] 43 (0, 0)) (by (with_reducible repeat (first | refine blk_drewN ?_ _ | refine blk_drew ?_ | refine blk_alloc ?_ _)); exact BK157.out) hb); have n2_ := Aside0.mk (below_step (by repeat (first | (with_reducible first | exact HB.out | apply below_alloc | apply pw_below_drewN | apply below_drew1 | refine below_set ?_ GE157.out) | exact HB.out)) hb); have n3_ := Aside0.mk (hbox); have n4_ := Aside0.mk ((by rw [hg]; exact (below_size (by repeat (first | (with_reducible first | exact HB.out | apply below_alloc | apply pw_below_drewN | apply below_drew1 | refine below_set ?_ GE157.out) | exact HB.out))) : w.heap.size ≤ gb159)); have n5_ := Aside0.mk ((by rw [hg]; exact (below_size (by repeat (first | (with_reducible first | exact HB.out | apply below_alloc | apply pw_below_drewN | apply below_drew1 | refine below_set ?_ GE157.out) | exact HB.out))) : w.heap.size ≤ gb159)); have n6_ := Aside0.mk ((by rw [hg]; exact Nat.ne_of_lt (blk_lt (g := gb157) (o := .cells #[.string a0_0, .slice (some ad158) l0_1.length c0_1] 43 (0, 0)) (by (with_reducible repeat (first | refine blk_drewN ?_ _ | refine blk_drew ?_ | refine blk_alloc ?_ _)); exact BK157.out)) : gb157 ≠ gb159)); have n7_ := Aside0.mk ((by rw [hg]; exact Nat.ne_of_gt (blk_lt (g := gb157) (o := .cells #[.string a0_0, .slice (some ad158) l0_1.length c0_1] 43 (0, 0)) (by (with_reducible repeat (first | refine blk_drewN ?_ _ | refine blk_drew ?_ | refine blk_alloc ?_ _)); exact BK157.out)) : gb159 ≠ gb157)); clear HO_3; clear BK157; clear HB; have HO_3 := n0_; have BK157 := n1_; have HB := n2_; have BK159 := n3_; have GW159 := n4_; have GE159 := n5_; have NB157_159 := n6_; have NB159_157 := n7_; clear n0_ n1_ n2_ n3_ n4_ n5_ n6_ n7_; clear hb hbox hg; have hnb16 := NB159_157.out; have hnc16 := NB157_159.out; have hcz17_0 : w15.cell? ⟨gb159, 0, none⟩ = some (.string (⟨#[]⟩ : ByteArray)) := (blk_cell BK159.out 0).trans rfl; have hcz17_1 : w15.cell? ⟨gb159, 1, none⟩ = some (.string (⟨#[]⟩ : ByteArray)) := (blk_cell BK159.out 1).trans rfl; have hfz17_0 := blk_frozen BK159.out 0; have hfz17_1 := blk_frozen BK159.out 1) | ((with_reducible refine gate_callee (f := 17) rfl ?_); refine goesL_ (some 19) rfl rfl Try.func17 (by kernel_rfl) rfl #[.string ((rd_T48 l0_1 x11_1).f1)] rfl (by (try simp only [List.map_toArray, List.map_cons, List.map_nil]); first | done | rfl | (simp only [List.length_drop, List.length_take]; rfl)) ?_; (with_reducible refine (kind_Elem.calls k1 ((rd_T48 l0_1 x11_1).f1) t160 false _ A7.out).mono ?_); rintro e w18 ⟨rfl, hb⟩; refine ⟨_, rfl, ?_⟩; have n0_ := Aside0.mk (Kd.R_below (by (with_reducible repeat (first | apply Kd.R_alloc | apply Kd.R_drewN | apply Kd.R_drew)); exact (Kd.R_mono (Kd.R_far (p := ⟨gb159, 1, none⟩) (Kd.R_far (p := ⟨gb159, 0, none⟩) (Kd.R_types HO_3.out BK159.out (by decide)) (fun _ hk => hk.2) (.string ((rd_T48 l0_1 x11_1).f0))) (fun _ hk => hk.2) (.string ((rd_T48 l0_1 x11_1).f1))) (fun _ h_ => h_.1))) hb); have n1_ := Aside0.mk (blk_below (g := gb157) (o := .cells #[.string a0_0, .slice (some ad158) l0_1.length c0_1] 43 (0, 0)) (by (with_reducible repeat (first | refine blk_drewN ?_ _ | refine blk_drew ?_ | refine blk_alloc ?_ _)); refine blk_far ?_ NB157_159.out _; (with_reducible repeat (first | refine blk_drewN ?_ _ | refine blk_drew ?_ | refine blk_alloc ?_ _)); refine blk_far ?_ NB157_159.out _; (with_reducible repeat (first | refine blk_drewN ?_ _ | refine blk_drew ?_ | refine blk_alloc ?_ _)); exact BK157.out) hb); have n2_ := Aside0.mk (blk_below (g := gb159) (o := .cells #[.string ((rd_T48 l0_1 x11_1).f0), .string ((rd_T48 l0_1 x11_1).f1)] 48 (0, 0)) (by (with_reducible repeat (first | refine blk_drewN ?_ _ | refine blk_drew ?_ | refine blk_alloc ?_ _)); refine blk_put (cs := #[.string ((rd_T48 l0_1 x11_1).f0), .string (⟨#[]⟩ : ByteArray)]) ?_ 1 _ rfl; (with_reducible repeat (first | refine blk_drewN ?_ _ | refine blk_drew ?_ | refine blk_alloc ?_ _)); refine blk_put (cs := #[.string (⟨#[]⟩ : ByteArray), .string (⟨#[]⟩ : ByteArray)]) ?_ 0 _ rfl; (with_reducible repeat (first | refine blk_drewN ?_ _ | refine blk_drew ?_ | refine blk_alloc ?_ _)); exact BK159.out) hb); have n3_ := Aside0.mk (below_step (by repeat (first | (with_reducible first | exact HB.out | apply below_alloc | apply pw_below_drewN | apply below_drew1 | refine below_set ?_ GE157.out | refine below_set ?_ GE159.out) | exact HB.out)) hb); clear HO_3; clear BK157; clear BK159; clear HB; have HO_3 := n0_; have BK157 := n1_; have BK159 := n2_; have HB := n3_; clear n0_ n1_ n2_ n3_; (try clear hb); (try clear hb2); (try clear hk); (try clear hi)))
       go_roundg k1
       case measure => have := HK1.out; omega
       case rel => exact ⟨(x3_1), (wrap64 (x11_1 + 1)), (by first | rfl | (simp; done) | (simp [*]; done)), H', ⟨by have := HK1.out; omega⟩, ⟨by (with_reducible repeat (first | apply Kd.R_alloc | apply Kd.R_drewN | apply Kd.R_drew)); exact HO_3.out⟩, ⟨by (with_reducible repeat (first | refine blk_drewN ?_ _ | refine blk_drew ?_ | refine blk_alloc ?_ _)); exact BK157.out⟩, ⟨by repeat (first | (with_reducible first | exact HB.out | apply below_alloc | apply pw_below_drewN | apply below_drew1 | refine below_set ?_ GE157.out | refine below_set ?_ GE159.out) | exact HB.out)⟩⟩
     ·rw [if_neg c6] at H
      exact absurd H (by simp)
    ·rw [if_neg c5] at H
     exact absurd H (by simp)
   ·rw [if_neg c4] at H
    have c4b0 : decide (x11_1 < (l0_1.length : Int)) = false := decide_eq_false c4
    clear c4
    obtain rfl := Option.some.inj H
    go_wp2
    go_ret
    exact ⟨_, by first | rfl | (simp [errW_none, errW_some] <;> rfl) | (simp [*, errW_none, errW_some] <;> rfl), by (with_reducible repeat (first | apply Kd.R_alloc | apply Kd.R_drewN | apply Kd.R_drew)); exact HO_3.out, by repeat (first | (with_reducible first | exact HB.out | apply below_alloc | apply pw_below_drewN | apply below_drew1 | refine below_set ?_ GE157.out) | exact HB.out)⟩
end Go.Proofs.Ytonmlncejikbiaa.Q
/- A map to bools as a set of keys: laws for the walk; and small words on rows. -/
namespace Go.Proofs.Ytonmlncejikbiaa.Q
open Go.RowKit Go.Proofs.YtonmlncejikbiaaW.PrintWords Go.Proofs.YtonmlncejikbiaaW.PrintLast Go.Proofs.YtonmlncejikbiaaW.PrintMore
set_option linter.unusedVariables false
set_option linter.unusedSimpArgs false
open Go.Maps (Keyed)
/-- Block b of w is a map to bools: true at the keys of S, and at no others. -/
structure SetAt (w : World) (P : Program) (k e : TypeId) (b : Nat) (S : List Lit) : Prop where
 out : ∃ n D, w.ownsMap (H := Unit) P k (plainElem P e) b n D ∧ Maps.IsMap D ∧ n ≤ S.length ∧ ∀ x, WideAt.IsKeyLit x → D.atKey x (.lit (.bool false)) = .lit (.bool (decB (x ∈ S)))
section
variable {P : Program} {k e t : TypeId} {w w1 : World} {b : Nat} {S : List Lit}
theorem SetAt.made (w : World) (P : Program) (k e : TypeId) : SetAt (w.alloc (.map #[] 0)) P k e w.heap.size [] :=
 ⟨0, .map [], World.ownsMap_made _ _ _ _, Maps.isMap_empty, Nat.le_refl _, fun x _ => by rw [decB_false (by simp)]; rfl⟩
theorem SetAt.kept (h : SetAt w P k e b S) {row : Option Nat} (hg : w.grownBy w1 row) (hne : some b ≠ row) : SetAt w1 P k e b S := by
 obtain ⟨n, D, h1, h2⟩ := h
 exact ⟨n, D, h1.kept hg hne, h2⟩
theorem SetAt.below (h : SetAt w P k e b S) (hb : Below w.heap.size w w1) : SetAt w1 P k e b S := h.kept (grown_of_below hb none) (by simp)
theorem SetAt.alloc (h : SetAt w P k e b S) (o : Obj) : SetAt (w.alloc o) P k e b S := h.below (below_alloc (Below.refl _ _) o)
theorem SetAt.drewN (h : SetAt w P k e b S) (m : Nat) : SetAt (w.drewN m) P k e b S := h.below (pw_below_drewN (Below.refl _ _) m)
theorem SetAt.drew (h : SetAt w P k e b S) : SetAt w.drew P k e b S := h.below (below_drew (Below.refl _ _))
theorem plain_bool_inv {v : Value} {x : Bool} {ps : List MemPlace} (he : P.underlying e = some .bool) (h : plainElem (H := Unit) P e v = some (.lit (.bool x), ps)) : v = .bool x := by
 unfold plainElem at h
 rw [he] at h
 cases v <;> simp at h
 obtain ⟨rfl, _⟩ := h
 rfl
theorem SetAt.lookup (h : SetAt w P k e b S) (K : Keyed P k) (ht : P.underlying t = some (.map k e)) (he : P.underlying e = some .bool) (hz : (zeroValue e).run P w = .ok (.bool false) w)
  {key : Value} {kl : Lit} (hkey : keyOf P k key = some kl) (hkl : WideAt.IsKeyLit kl) : (Instr.lookup t (.map (some b)) key false).run P w = .ok (.bool (decB (kl ∈ S))) w := by
 obtain ⟨n, D, h1, h2, h3, h4⟩ := h
 obtain ⟨v, ps, hrun, hv⟩ := h1.lookup K ht hz (plainElem_bool he false) hkey
 rw [h4 kl hkl] at hv
 rw [hrun, plain_bool_inv he hv]
theorem decB_iff {p q : Prop} (h : p ↔ q) : decB p = decB q := by rw [propext h]
theorem SetAt.update_op {ops : Array Oper} {rest : List Oper} {o : Oper} {a : Act} {Q : Exit → Act → World → Prop} (h : SetAt w P k e b S)
  (hg : o.guard = none) (m x v : Operand) (hop : o.op = Op.mapUpdate t m x v) (K : Keyed P k) (ht : P.underlying t = some (.map k e)) (he : P.underlying e = some .bool)
  (hm : a.eval m = .map (some b)) (hn : S.length < maxLen) (key : Value) (kl : Lit) (hx : a.eval x = key) (hv : a.eval v = .bool true) (hkey : keyOf P k key = some kl) (hkl : WideAt.IsKeyLit kl)
  (hK : ∀ w', SetAt w' P k e b (kl :: S) → w.grownBy w' (some b) → wpList P ops Q rest (a.put o.dst undef) w') :
  wpList P ops Q (o :: rest) a w := by
 obtain ⟨n, D, h1, h2, h3, h4⟩ := h
 refine wpList_mapUpdate_own w hg m x v t hop k e K ht (plainElem P e) b n D hm h1 (by omega) key _ kl hx hv hkey _ [] (plainElem_bool he true) ?_
 intro w' ho hgr
 refine hK w' ⟨n + 1, D.put kl _, ho, h2.put _ _, by simp; omega, fun y hy => ?_⟩ hgr
 by_cases hyk : y = kl
 ·subst hyk
  rw [Maps.atKey_put_same h2 hy, decB_true (by simp)]
 ·rw [Maps.atKey_put_other hyk, h4 y hy]
  congr 2
  exact decB_iff (by simp [hyk])
end
theorem lit_R {α : Type} (d : Kd α) {W : World} (base e : Nat) {xs : List α} {inner : List Value} {ok okp : Nat → Prop}
  (hrep : Reps (d.M W base okp) d.sz xs inner) (hok : ∀ k, okp k → ok k) (hfresh : ok W.heap.size) (hbase : base ≤ W.heap.size) (hm : xs.length ≤ 9223372036854775807) :
  d.R e (W.alloc (.cells inner.toArray e)) base ok (.slice (some ⟨W.heap.size, 0, none⟩) xs.length xs.length) xs := by
 refine ⟨fun k hk => ?_, inner, ?_, ?_⟩
 ·have : W.heap.size = k := by simpa [Value.ownBlock] using hk
  subst this
  exact hfresh
 ·have h2 := World.ownsRow_lit (base := base) (e := e) (size := d.sz) W inner.toArray xs.length hbase (by simpa [maxLen] using hm) (by simpa using hrep.1)
  simpa using h2
 ·refine hrep.imp_ (fun p c hp => d.M_mono (fun k hk => ⟨hok k hk.1, fun he => ?_⟩) (Kd.M_below (d.M_bound hp) (below_alloc (Below.refl _ _) _)))
  have h3 : k = W.heap.size := by simpa [Value.ownBlock] using he
  have := hk.2.2.1
  omega
theorem SetAt.ne_own {α : Type} {P : Program} {k e : TypeId} {w : World} {b : Nat} {S : List Lit} {d : Kd α} {e' base : Nat} {ok : Nat → Prop} {v : Value} {xs : List α} (h : SetAt w P k e b S) (hq : d.Q e' w base ok v xs) : some b ≠ v.ownBlock := by
 intro he
 obtain ⟨cells, hc⟩ := Kd.Q_typed hq b he.symm
 obtain ⟨n, D, ⟨es, clock, hb, _⟩, _⟩ := h
 rw [hb] at hc
 cases hc
theorem at_scalar {α : Type} {enc : α → Value} {h1 : ∀ x, (enc x).oneCell' = true} {w : World} {A : Option Addr} {n : Nat} {xs : List α} (h : Kd.C (Kd.scalar enc h1) w A n xs) (z : α) (k : Nat) (hk : k < n) : ∃ ad, A = some ad ∧ w.cell? (ad.add k) = some (enc (xs.getD k z)) := by
 obtain ⟨e1, e2, h⟩ := h
 obtain ⟨ad, ea, h⟩ := h (by omega)
 have hl : k < xs.length := by omega
 obtain ⟨c, hc, hK, hcell⟩ := h k _ (List.getElem?_eq_getElem hl)
 refine ⟨ad, ea, ?_⟩
 have hK' : c = [enc xs[k]] := hK
 subst hK'
 have := hcell 0 _ rfl
 have e : k * (Kd.scalar enc h1).sz + 0 = k := by show k * 1 + 0 = k; omega
 rw [e] at this
 rw [this, getD_at xs z hl]
theorem at_int {q : IntKind} {w : World} {A : Option Addr} {n : Nat} {xs : List Int} (h : Kd.C (Kd.int q) w A n xs) (k : Nat) (hk : k < n) : ∃ ad, A = some ad ∧ w.cell? (ad.add k) = some (.int q (xs.getD k 0)) := at_scalar (enc := Value.int q) h _ k hk
/-- A queue's rest. -/
theorem cut_queue {α : Type} {d : Kd α} {P : Program} {t e : TypeId} {w : World} {base : Nat} {ok : Nat → Prop} {A : Option Addr} {c : Nat} {x : α} {xs : List α} (ht : P.underlying t = some (.slice e)) (hi : (P.info? e).map (·.size) = some d.sz)
  (h : d.Q e w base ok (.slice A (xs.length + 1) c) (x :: xs)) : ∃ A1 c1, (∀ W : World, (Instr.slice t (.slice A (xs.length + 1) c) (some (.int .i64 1)) none none).run P W = .ok (.slice A1 xs.length c1) W) ∧ d.Q e w base ok (.slice A1 xs.length c1) xs := by
 obtain ⟨i, hi, hs⟩ := Option.map_eq_some_iff.1 hi
 have h1 := cut_from (P := P) t e .i64 ht hi d.sz hs A (xs.length + 1) c 1 (by omega) (by omega)
 have h2 := Kd.Q_drop (k := 1) h (by simp)
 exact ⟨_, _, h1, h2⟩
/-- What a stack holds behind a pop. -/
theorem cut_stack {α : Type} {d : Kd α} {P : Program} {t e : TypeId} {w : World} {base : Nat} {ok : Nat → Prop} {A : Option Addr} {n c : Nat} {xs : List α} (ht : P.underlying t = some (.slice e)) (hi : (P.info? e).map (·.size) = some d.sz)
  (h : d.R e w base ok (.slice A n c) xs) (hn : n = xs.length) (hc : n ≤ c) (hp : 0 < n) : (∀ W : World, (Instr.slice t (.slice A n c) none (some (.int .i64 ((n : Int) - 1))) none).run P W = .ok (.slice A (n - 1) c) W) ∧ d.R e w base ok (.slice A (n - 1) c) (xs.take (n - 1)) := by
 obtain ⟨i, hi, hs⟩ := Option.map_eq_some_iff.1 hi
 have h1 := cut_to (P := P) t e .i64 ht hi A n c ((n : Int) - 1) (by omega) (by omega) hc
 have e1 : ((n : Int) - 1).toNat = n - 1 := by omega
 rw [e1] at h1
 exact ⟨h1, Kd.R_take h (by omega)⟩
end Go.Proofs.Ytonmlncejikbiaa.Q
/- A heap behind a pointer: its block, its two rows; what lies apart; what a call may turn. -/
namespace Go.Proofs.Ytonmlncejikbiaa.Q
open Go.RowKit Go.Proofs.YtonmlncejikbiaaW.PrintWords Go.Proofs.YtonmlncejikbiaaW.PrintLast Go.Proofs.YtonmlncejikbiaaW.PrintMore
set_option linter.unusedVariables false
set_option linter.unusedSimpArgs false
def kOb : Kd (Int × List Int) := Kd.pair (Kd.int .i64) (Kd.slice 3 (Kd.int .i64))
theorem kOb_open {w : World} {x : Int × List Int} {cs : List Value} (h : kOb.K w x cs) : ∃ A1 c1, cs = [.int .i64 x.1, .slice A1 x.2.length c1] ∧ x.2.length ≤ c1 ∧ (Kd.int .i64).C w A1 x.2.length x.2 := by
 obtain ⟨_, _, rfl, rfl, ⟨A1, c1, rfl, l1, g1⟩⟩ := h
 exact ⟨A1, c1, rfl, l1, g1⟩
theorem kOb_openM {w : World} {base : Nat} {ok : Nat → Prop} {x : Int × List Int} {cs : List Value} (h : kOb.M w base ok x cs) : ∃ v1, cs = [.int .i64 x.1, v1] ∧ (Kd.int .i64).R 3 w base ok v1 x.2 := by
 obtain ⟨_, _, rfl, rfl, ⟨v1, rfl, g1⟩⟩ := h
 exact ⟨v1, rfl, g1⟩
theorem kOb_mkM (w : World) (base : Nat) (ok : Nat → Prop) (x : Int × List Int) {v1 : Value} (g1 : (Kd.int .i64).R 3 w base ok v1 x.2) : kOb.M w base ok x [.int .i64 x.1, v1] := ⟨[.int .i64 x.1], [v1], rfl, rfl, ⟨v1, rfl, g1⟩⟩
def rdO (xs : List (Int × List Int)) (i : Int) : Int × List Int := xs.getD i.toNat (0, [])
theorem at_O {w : World} {A : Option Addr} {n : Nat} {xs : List (Int × List Int)} (h : Kd.C kOb w A n xs) (i : Int) (h0 : 0 ≤ i) (h1 : i < n) : ∃ ad A1 c1, A = some ad ∧ w.cell? (ad.add (i.toNat * 2)) = some (.int .i64 (rdO xs i).1) ∧ w.cell? ⟨(ad.add (i.toNat * 2)).block, (ad.add (i.toNat * 2)).off + 1, none⟩ = some (.slice A1 (rdO xs i).2.length c1) ∧ (rdO xs i).2.length ≤ c1 ∧ (Kd.int .i64).C w A1 (rdO xs i).2.length (rdO xs i).2 := by
 obtain ⟨ad, c, e, _, hK, hc0⟩ := Kd.C_get h (0, []) i h0 h1
 have hc : ∀ j u, c[j]? = some u → w.cell? (ad.add (i.toNat * 2 + j)) = some u := hc0
 obtain ⟨A1, c1, rfl, l1, g1⟩ := kOb_open hK
 exact ⟨ad, A1, c1, e, hc 0 _ rfl, by rw [← add_field _ _ 1 (by omega)]; exact hc 1 _ rfl, l1, g1⟩
/-- A heap: block g (type tH) holds its structs, only read (in sok), and its objects (type tO), each with a row of its own (in lok). -/
structure Hp (tH tO : Nat) (W : World) (base g : Nat) (sv lv : Value) (S : List S43) (L : List (Int × List Int)) (sok lok : Nat → Prop) : Prop where
 blk : W.heap[g]? = some (.cells #[sv, lv] tH (0, 0))
 low : base ≤ g
 sts : Kd.V k43 43 W base sok sv S
 lst : Kd.S kOb tO W base lok lv L
 sap : ∀ k, sok k → k ≠ g ∧ ¬ lok k ∧ k < W.heap.size
 lap : ∀ k, lok k → k ≠ g ∧ base ≤ k ∧ k < W.heap.size
section
variable {tH tO base g : Nat} {W W1 : World} {sv lv : Value} {S : List S43} {L : List (Int × List Int)} {sok lok T : Nat → Prop}
theorem Hp.kept (h : Hp tH tO W base g sv lv S L sok lok) (hk : Kept W W1 T) (hg : ¬ T g) (hs : ∀ k, sok k → ¬ T k) (hl : ∀ k, lok k → ¬ T k) : Hp tH tO W1 base g sv lv S L sok lok where
 blk := (hk.2 g (blk_lt h.blk) hg).trans h.blk
 low := h.low
 sts := Kd.V_kept h.sts hk hs
 lst := Kd.S_kept h.lst hk hl
 sap := fun k hk1 => ⟨(h.sap k hk1).1, (h.sap k hk1).2.1, Nat.lt_of_lt_of_le (h.sap k hk1).2.2 hk.1⟩
 lap := fun k hk1 => ⟨(h.lap k hk1).1, (h.lap k hk1).2.1, Nat.lt_of_lt_of_le (h.lap k hk1).2.2 hk.1⟩
theorem Hp.below (h : Hp tH tO W base g sv lv S L sok lok) (hb : Below W.heap.size W W1) : Hp tH tO W1 base g sv lv S L sok lok :=
 h.kept (Kept.of_below hb (fun _ => False)) (fun x => x) (fun _ _ x => x) (fun _ _ x => x)
/-- What is read of an object. -/
theorem Hp.elem (h : Hp tH tO W base g sv lv S L sok lok) (i : Int) (h0 : 0 ≤ i) (h1 : i < (L.length : Int)) :
  ∃ ad cl A1 c1, lv = .slice (some ad) L.length cl ∧ L.length ≤ cl ∧ W.cell? (ad.add (i.toNat * 2)) = some (.int .i64 (rdO L i).1) ∧ W.cell? ⟨(ad.add (i.toNat * 2)).block, (ad.add (i.toNat * 2)).off + 1, none⟩ = some (.slice A1 (rdO L i).2.length c1) ∧ (rdO L i).2.length ≤ c1 ∧ (Kd.int .i64).C W A1 (rdO L i).2.length (rdO L i).2 := by
 obtain ⟨A, c, rfl, hc, hC⟩ := Kd.S_reads h.lst
 obtain ⟨ad, A1, c1, rfl, h2, h3, h4, h5⟩ := at_O hC i h0 h1
 exact ⟨ad, c, A1, c1, rfl, hc, h2, h3, h4, h5⟩
/-- The list's value. -/
theorem Hp.list (h : Hp tH tO W base g sv lv S L sok lok) : ∃ A c, lv = .slice A L.length c ∧ L.length ≤ c ∧ L.length ≤ 9223372036854775807 := by
 obtain ⟨A, c, e, hc, hC⟩ := Kd.S_reads h.lst
 exact ⟨A, c, e, hc, Kd.C_max hC⟩
theorem Hp.structs (h : Hp tH tO W base g sv lv S L sok lok) : ∃ A c, sv = .slice A S.length c ∧ S.length ≤ c ∧ Kd.C k43 W A S.length S := by
 obtain ⟨A, c, rfl⟩ := Kd.V_slice h.sts
 obtain ⟨_, h1, h2⟩ := Kd.V_reads' h.sts
 exact ⟨A, c, rfl, h1, h2⟩
/-- A number of an object is written. -/
theorem Hp.lend (h : Hp tH tO W base g sv lv S L sok lok) (i f : Int) (h0 : 0 ≤ i) (h1 : i < (L.length : Int)) (f0 : 0 ≤ f) (f1 : f < ((rdO L i).2.length : Int)) :
  ∃ ad cl b cp, lv = .slice (some ad) L.length cl ∧ L.length ≤ cl ∧ W.cell? ⟨(ad.add (i.toNat * 2)).block, (ad.add (i.toNat * 2)).off + 1, none⟩ = some (.slice (some ⟨b, 0, none⟩) (rdO L i).2.length cp) ∧ (rdO L i).2.length ≤ cp ∧ W.cell? ⟨b, f.toNat, none⟩ = some (.int .i64 (rd (rdO L i).2 f)) ∧ W.frozen? ⟨b, f.toNat, none⟩ = false ∧
   ∀ n : Int, Hp tH tO (W.setCell ⟨b, f.toNat, none⟩ (.int .i64 n)) base g sv lv S (L.set i.toNat ((rdO L i).1, (rdO L i).2.set f.toNat n)) sok lok ∧ Kept W (W.setCell ⟨b, f.toNat, none⟩ (.int .i64 n)) lok ∧ Below base W (W.setCell ⟨b, f.toNat, none⟩ (.int .i64 n)) := by
 obtain ⟨A, cl, rfl, hc, hC⟩ := Kd.S_reads h.lst
 obtain ⟨ad, A1, c1, rfl, _, h3, h4, _⟩ := at_O hC i h0 h1
 obtain ⟨oki, cs, hcl, hM, hcc, hok, hput⟩ := Kd.S_borrow h.lst (0, []) i h0 (by simpa using h1)
 obtain ⟨v1, rfl, hR⟩ := kOb_openM hM
 have hcell := hcc 1 v1 rfl
 have e2 : kOb.sz = 2 := rfl
 rw [e2, add_field _ _ 1 (by omega)] at hcell
 have hv : v1 = .slice A1 (rdO L i).2.length c1 := Option.some.inj (hcell.symm.trans h3)
 obtain ⟨b, cp, hf, hb0, hb1, _⟩ := Kd.R_form hR (show 0 < (L.getD i.toNat (0, [])).2.length by have : (rdO L i).2.length = (L.getD i.toNat (0, [])).2.length := rfl; omega)
 have hR2 : (Kd.int .i64).R 3 W base oki (.slice (some ⟨b, 0, none⟩) (rdO L i).2.length cp) (rdO L i).2 := by rw [hf] at hR; exact hR
 obtain ⟨c2, hc2, hM2, hcc2, hfz⟩ := Kd.R_elem hR2 0 f f0 f1
 have hM2' : c2 = [.int .i64 ((rdO L i).2.getD f.toNat 0)] := hM2
 have hcl2 := hcc2 0 _ (by rw [hM2']; rfl)
 have hfz2 := hfz 0
 have e1 : f.toNat * (Kd.int .i64).sz + 0 = f.toNat := by show f.toNat * 1 + 0 = f.toNat; omega
 rw [e1] at hcl2 hfz2
 have hokb : oki b := hR2.1 b rfl
 have hnl := Kd.R_reads' hR2
 refine ⟨ad, cl, b, cp, rfl, hc, by rw [h3, ← hv, hf]; rfl, by have := hnl.2.1; exact this, hcl2, hfz2, fun n => ?_⟩
 obtain ⟨q1, q2⟩ := Kd.R_putg (enc := Value.int .i64) hR2 f n
 have hne : b ≠ g := (h.lap b (hok b hokb).1).1
 have hkept : Kept W (W.setCell ⟨b, f.toNat, none⟩ (.int .i64 n)) lok := Kept.of_grown q2 (Kept.refl W lok) (fun k hk => .inl (by injection hk with hk; rw [← hk]; exact (hok b hokb).1))
 refine ⟨⟨?_, h.low, Kd.V_kept h.sts hkept (fun k hk => (h.sap k hk).2.1), ?_, fun k hk => ⟨(h.sap k hk).1, (h.sap k hk).2.1, Nat.lt_of_lt_of_le (h.sap k hk).2.2 hkept.1⟩, fun k hk => ⟨(h.lap k hk).1, (h.lap k hk).2.1, Nat.lt_of_lt_of_le (h.lap k hk).2.2 hkept.1⟩⟩, hkept, (Below.refl base W).setCell (h.lap b (hok b hokb).1).2.1 _⟩
 ·exact (hkept.2 g (blk_lt h.blk) (fun hk => (h.lap g hk).1 rfl)).trans h.blk
 ·have hx : kOb.M (W.setCell ⟨b, f.toNat, none⟩ (.int .i64 n)) base oki ((rdO L i).1, (rdO L i).2.set f.toNat n) [.int .i64 (L.getD i.toNat (0, [])).1, v1] := by
   rw [hf]
   exact kOb_mkM _ base oki ((rdO L i).1, (rdO L i).2.set f.toNat n) (by
    have e3 : ((rdO L i).2.set f.toNat n).length = (rdO L i).2.length := List.length_set
    exact q1)
  exact hput (x' := ((rdO L i).1, (rdO L i).2.set f.toNat n)) q2 (fun k hk => by injection hk with hk; rw [← hk]; exact hokb) hx
/-- An object comes behind the others. -/
theorem Hp.appended (h : Hp tH tO W base g sv lv S L sok lok) {v1 : Value} {p : Int × List Int} {ok : Nat → Prop} (hS : Kd.S kOb tO W1 base ok v1 (L ++ [p])) (hg : W.grownBy W1 lv.ownBlock) (hok : ∀ k, ok k → k ≠ g ∧ ¬ sok k) :
  W1.heap[g]? = some (.cells #[sv, lv] tH (0, 0)) ∧ ∃ lok', Hp tH tO (W1.setCell ⟨g, 1, none⟩ v1) base g sv v1 S (L ++ [p]) sok lok' ∧ (∀ k, lok' k → ok k) ∧ Kept W (W1.setCell ⟨g, 1, none⟩ v1) (fun k => k = g ∨ lok k) ∧ Below base W (W1.setCell ⟨g, 1, none⟩ v1) := by
 have hk1 : Kept W W1 lok := Kept.of_grown hg (Kept.refl W lok) (fun k hk => .inl ((Kd.S_R h.lst).1 k hk))
 have hb1 := (hk1.2 g (blk_lt h.blk) (fun x => (h.lap g x).1 rfl)).trans h.blk
 have hb2 : (W1.setCell ⟨g, 1, none⟩ v1).heap[g]? = some (.cells #[sv, v1] tH (0, 0)) := blk_put hb1 1 v1 rfl
 have hk2 : Kept W (W1.setCell ⟨g, 1, none⟩ v1) (fun k => k = g ∨ lok k) := Kept.setCell (hk1.mono (fun k hk => .inr hk)) (.inl (.inl rfl)) v1
 have hsz : (W1.setCell ⟨g, 1, none⟩ v1).heap.size = W1.heap.size := by simp [World.setCell]
 have hS2 := Kd.S_mono (ok' := fun k => ok k ∧ base ≤ k ∧ k < W1.heap.size) (Kd.S_bound hS) (fun k hk => ⟨hk.1, hk.2.1, hk.2.2.1⟩)
 refine ⟨hb1, fun k => ok k ∧ base ≤ k ∧ k < W1.heap.size, ⟨hb2, h.low, ?_, Kd.S_far hS2 (p := ⟨g, 1, none⟩) (fun k hk => (hok k hk.1).1) v1, ?_, ?_⟩, fun k hk => hk.1, hk2, ((Below.refl base W).grown hg (Nat.le_trans h.low (Nat.le_of_lt (blk_lt h.blk))) (fun k hk => Kd.S_base h.lst k hk)).setCell h.low _⟩
 ·exact Kd.V_kept h.sts hk2 (fun k hk => by
   rintro (e | e)
   ·exact (h.sap k hk).1 e
   ·exact (h.sap k hk).2.1 e)
 ·exact fun k hk => ⟨(h.sap k hk).1, fun hl => (hok k hl.1).2 hk, Nat.lt_of_lt_of_le (h.sap k hk).2.2 hk2.1⟩
 ·exact fun k hk => ⟨(hok k hk.1).1, hk.2.1, by rw [hsz]; exact hk.2.2⟩
end
abbrev HP := Hp 116 119
abbrev ptr (g : Nat) : Value := .pointer (some ⟨g, 0, none⟩)
/-- What is wrong with a field of an object. -/
def chkE (L : List (Int × List Int)) (obj f : Int) : Int :=
 if obj = 0 then 10 else if obj < 0 ∨ obj > (L.length : Int) then 13 else if f < 0 ∨ f ≥ ((rdO L (obj - 1)).2.length : Int) then 2 else 0
section
variable {base g : Nat} {w : World} {sv lv : Value} {S : List S43} {L : List (Int × List Int)} {sok lok : Nat → Prop}
set_option maxRecDepth 100000 in
set_option maxHeartbeats 2000000 in
theorem heap_check.nil (obj f : Int) (w : World) : Calls Try.prog 81 #[.pointer none, .int .i64 obj, .int .i64 f] w fun e w' => e = .returned (.int .i64 13) ∧ Below w.heap.size w w' := by
 go_enter Try.func81, Try.ntmps81
 go_wp2
 go_ret
 exact ⟨rfl, Below.refl _ _⟩
set_option maxRecDepth 100000 in
set_option maxHeartbeats 2000000 in
theorem heap_check.calls (obj f : Int) (h : HP w base g sv lv S L sok lok) :
  Calls Try.prog 81 #[ptr g, .int .i64 obj, .int .i64 f] w fun e w' => e = .returned (.int .i64 (chkE L obj f)) ∧ Below w.heap.size w w' := by
 obtain ⟨A, c, rfl, hc, hm⟩ := h.list
 obtain ⟨c0, c1, _, _⟩ := bk2 h.blk
 by_cases h0 : obj = 0
 ·subst h0
  have hr : chkE L 0 f = 10 := if_pos rfl
  rw [hr]
  go_enter Try.func81, Try.ntmps81
  go_wp2
  go_ret
  exact ⟨rfl, Below.refl _ _⟩
 ·by_cases h1 : obj < 0
  ·have hr : chkE L obj f = 13 := by unfold chkE; rw [if_neg h0, if_pos (.inl h1)]
   rw [hr]
   go_enter Try.func81, Try.ntmps81
   go_wp2
   go_ret
   exact ⟨rfl, Below.refl _ _⟩
  ·by_cases h2 : obj > (L.length : Int)
   ·have hr : chkE L obj f = 13 := by unfold chkE; rw [if_neg h0, if_pos (.inr h2)]
    rw [hr]
    go_enter Try.func81, Try.ntmps81
    go_wp2
    go_ret
    exact ⟨rfl, Below.refl _ _⟩
   ·obtain ⟨n, rfl⟩ : ∃ n : Nat, obj = (n : Int) + 1 := ⟨(obj - 1).toNat, by omega⟩
    have hn : n < L.length := by omega
    have e1 : (n : Int) + 1 - 1 = n := by omega
    obtain ⟨ad, cl, A1, c1', hA, _, q1, q2, q3, q4⟩ := h.elem (n : Int) (by omega) (by omega)
    cases hA
    simp only [Int.toNat_natCast] at q1 q2
    obtain ⟨x, hx⟩ : ∃ x, x = rdO L (n : Int) := ⟨_, rfl⟩
    rw [← hx] at q1 q2 q3 q4
    have hr : chkE L ((n : Int) + 1) f = if f < 0 ∨ f ≥ (x.2.length : Int) then 2 else 0 := by unfold chkE; rw [if_neg h0, if_neg (by omega), e1, ← hx]
    rw [hr]
    have hw : IntKind.i64.wrap ((n : Int) + 1 - 1) = n := by rw [e1, IntKind.wrap_i64]; omega
    clear hr hx q4 h
    by_cases h3 : f < 0
    ·rw [if_pos (.inl h3)]
     go_enter Try.func81, Try.ntmps81
     go_wp2
     go_ret
     exact ⟨rfl, Below.refl _ _⟩
    ·by_cases h4 : f ≥ (x.2.length : Int)
     ·rw [if_pos (.inr h4)]
      go_enter Try.func81, Try.ntmps81
      go_wp2
      go_ret
      exact ⟨rfl, Below.refl _ _⟩
     ·rw [if_neg (by omega)]
      go_enter Try.func81, Try.ntmps81
      go_wp2
      go_ret
      exact ⟨rfl, Below.refl _ _⟩
/-- What is right with a field of an object. -/
theorem chk_zero {L : List (Int × List Int)} {obj f : Int} (h : chkE L obj f = 0) : 0 < obj ∧ obj ≤ (L.length : Int) ∧ 0 ≤ f ∧ f < ((rdO L (obj - 1)).2.length : Int) := by
 unfold chkE at h
 split at h
 ·cases h
 ·split at h
  ·cases h
  ·split at h
   ·cases h
   ·omega
def getO (L : List (Int × List Int)) (obj f : Int) : Int := if chkE L obj f = 0 then rd (rdO L (obj - 1)).2 f else 0
def setO (L : List (Int × List Int)) (obj f n : Int) : List (Int × List Int) := if chkE L obj f = 0 then L.set (obj - 1).toNat ((rdO L (obj - 1)).1, (rdO L (obj - 1)).2.set f.toNat n) else L
set_option maxRecDepth 100000 in
set_option maxHeartbeats 2000000 in
theorem heap_Get.nil (obj f : Int) (w : World) : Calls Try.prog 39 #[.pointer none, .int .i64 obj, .int .i64 f] w fun e w' => e = .returned (.tuple #[.int .i64 0, .int .i64 13]) ∧ Below w.heap.size w w' := by
 go_enter Try.func39, Try.ntmps39
 go_wp2_with fail
 refine (heap_check.nil obj f w).mono ?_
 rintro e w1 ⟨rfl, hb⟩
 have HB := Aside0.mk hb; clear hb
 go_wp2
 go_ret2
 exact ⟨rfl, HB.out⟩
set_option maxRecDepth 100000 in
set_option maxHeartbeats 2000000 in
theorem heap_Get.calls (obj f : Int) (h : HP w base g sv lv S L sok lok) :
  Calls Try.prog 39 #[ptr g, .int .i64 obj, .int .i64 f] w fun e w' => e = .returned (.tuple #[.int .i64 (getO L obj f), .int .i64 (chkE L obj f)]) ∧ Below w.heap.size w w' := by
 have hchk := heap_check.calls obj f h
 unfold getO
 by_cases hz : chkE L obj f = 0
 ·rw [hz] at hchk
  rw [if_pos hz, hz]
  obtain ⟨p0, p1, p2, p3⟩ := chk_zero hz
  clear hz
  obtain ⟨n, rfl⟩ : ∃ n : Nat, obj = (n : Int) + 1 := ⟨(obj - 1).toNat, by omega⟩
  have e1 : (n : Int) + 1 - 1 = n := by omega
  rw [e1] at p3 ⊢
  have hn : n < L.length := by omega
  obtain ⟨x, hx⟩ : ∃ x, x = rdO L (n : Int) := ⟨_, rfl⟩
  rw [← hx] at p3 ⊢
  obtain ⟨m, rfl⟩ : ∃ m : Nat, f = m := ⟨f.toNat, by omega⟩
  obtain ⟨y, hy⟩ : ∃ y, y = rd x.2 (m : Int) := ⟨_, rfl⟩
  rw [← hy]
  have H := Aside0.mk h; have HCH := Aside0.mk hchk; have HX := Aside0.mk hx; have HY := Aside0.mk hy; clear h hchk hx hy
  go_enter Try.func39, Try.ntmps39
  go_wp2_with fail
  refine HCH.out.mono ?_
  rintro e w1 ⟨rfl, hb⟩
  have HB := Aside0.mk hb
  have h1 := H.out.below hb
  clear hb H HCH
  obtain ⟨c0, c1, _, _⟩ := bk2 h1.blk
  obtain ⟨ad, cl, A1, c1', rfl, hcl, q1, q2, q3, q4⟩ := h1.elem (n : Int) (by omega) (by omega)
  obtain ⟨_, _, _, _, hm⟩ := h1.list
  simp only [Int.toNat_natCast] at q1 q2
  rw [← HX.out] at q1 q2 q3 q4
  obtain ⟨bd, rfl, hcell⟩ := Kd.at_int q4 (m : Int) (by omega) (by omega)
  simp only [Int.toNat_natCast] at hcell
  rw [← HY.out] at hcell
  have hw : IntKind.i64.wrap ((n : Int) + 1 - 1) = n := by rw [e1, IntKind.wrap_i64]; omega
  have hxm := Kd.C_max q4
  clear h1 q4 HX HY
  go_wp2
  go_ret2
  exact ⟨rfl, HB.out⟩
 ·rw [if_neg hz]
  have hne : (chkE L obj f != 0) = true := by simpa using hz
  clear hz h
  generalize chkE L obj f = c at hne hchk ⊢
  have HCH := Aside0.mk hchk; clear hchk
  go_enter Try.func39, Try.ntmps39
  go_wp2_with fail
  refine HCH.out.mono ?_
  rintro e w1 ⟨rfl, hb⟩
  have HB := Aside0.mk hb; clear hb HCH
  go_wp2
  go_ret2
  exact ⟨rfl, HB.out⟩
set_option maxRecDepth 100000 in
set_option maxHeartbeats 2000000 in
theorem heap_Set.nil (obj f n : Int) (w : World) : Calls Try.prog 35 #[.pointer none, .int .i64 obj, .int .i64 f, .int .i64 n] w fun e w' => e = .returned (.int .i64 13) ∧ Below w.heap.size w w' := by
 go_enter Try.func35, Try.ntmps35
 go_wp2_with fail
 refine (heap_check.nil obj f w).mono ?_
 rintro e w1 ⟨rfl, hb⟩
 have HB := Aside0.mk hb; clear hb
 go_wp2
 go_ret
 exact ⟨rfl, HB.out⟩
set_option maxRecDepth 100000 in
set_option maxHeartbeats 2000000 in
theorem heap_Set.calls (obj f z : Int) (h : HP w base g sv lv S L sok lok) :
  Calls Try.prog 35 #[ptr g, .int .i64 obj, .int .i64 f, .int .i64 z] w fun e w' => e = .returned (.int .i64 (chkE L obj f)) ∧ HP w' base g sv lv S (setO L obj f z) sok lok ∧ Kept w w' lok ∧ Below base w w' := by
 have hbase : base ≤ w.heap.size := Nat.le_trans h.low (Nat.le_of_lt (blk_lt h.blk))
 have hchk := heap_check.calls obj f h
 unfold setO
 by_cases hz : chkE L obj f = 0
 ·rw [hz] at hchk
  rw [if_pos hz, hz]
  obtain ⟨p0, p1, p2, p3⟩ := chk_zero hz
  clear hz
  obtain ⟨n, rfl⟩ : ∃ n : Nat, obj = (n : Int) + 1 := ⟨(obj - 1).toNat, by omega⟩
  have e1 : (n : Int) + 1 - 1 = n := by omega
  rw [e1] at p3 ⊢
  have hn : n < L.length := by omega
  obtain ⟨x, hx⟩ : ∃ x, x = rdO L (n : Int) := ⟨_, rfl⟩
  rw [← hx] at p3 ⊢
  obtain ⟨m, rfl⟩ : ∃ m : Nat, f = m := ⟨f.toNat, by omega⟩
  simp only [Int.toNat_natCast]
  obtain ⟨y, hy⟩ : ∃ y, y = rd x.2 (m : Int) := ⟨_, rfl⟩
  have H := Aside0.mk h; have HCH := Aside0.mk hchk; have HX := Aside0.mk hx; have HY := Aside0.mk hy; clear h hchk hx hy
  go_enter Try.func35, Try.ntmps35
  go_wp2_with fail
  refine HCH.out.mono ?_
  rintro e w1 ⟨rfl, hb⟩
  have HK := Aside0.mk (Kept.of_below hb lok)
  have HBB := Aside0.mk (hb.mono hbase)
  have h1 := H.out.below hb
  clear hb H HCH
  obtain ⟨c0, c1, _, _⟩ := bk2 h1.blk
  have hxm : x.2.length ≤ 9223372036854775807 := by
   have h4 := (h1.elem (n : Int) (by omega) (by omega))
   obtain ⟨_, _, _, _, _, _, _, _, _, h4⟩ := h4
   rw [HX.out]; exact Kd.C_max h4
  obtain ⟨ad, cl, b, cp, rfl, hcl, q2, q3, q4, q5, q6⟩ := h1.lend (n : Int) (m : Int) (by omega) (by omega) p2 (by rw [← HX.out]; exact p3)
  obtain ⟨_, _, _, _, hm⟩ := h1.list
  have Q6 := Aside0.mk (q6 z)
  simp only [Int.toNat_natCast] at q2 q4 q5 Q6
  rw [← HX.out] at q2 q3 q4 Q6
  rw [← HY.out] at q4
  have hw : IntKind.i64.wrap ((n : Int) + 1 - 1) = n := by rw [e1, IntKind.wrap_i64]; omega
  clear h1 q6 HX HY
  go_wp2
  go_ret
  exact ⟨rfl, Q6.out.1, HK.out.then_ Q6.out.2.1 (fun k hk => .inl hk), HBB.out.trans Q6.out.2.2⟩
 ·rw [if_neg hz]
  have hne : (chkE L obj f != 0) = true := by simpa using hz
  have H := Aside0.mk h; clear h hz
  generalize chkE L obj f = c at hne hchk ⊢
  have HCH := Aside0.mk hchk; clear hchk
  go_enter Try.func35, Try.ntmps35
  go_wp2_with fail
  refine HCH.out.mono ?_
  rintro e w1 ⟨rfl, hb⟩
  have HK := Aside0.mk (Kept.of_below hb lok)
  have HBB := Aside0.mk (hb.mono hbase)
  have H1 := Aside0.mk (H.out.below hb)
  clear hb H HCH
  go_wp2
  go_ret
  exact ⟨rfl, H1.out, HK.out, HBB.out⟩
set_option maxRecDepth 100000 in
set_option maxHeartbeats 2000000 in
theorem heap_Len.nil (w : World) : Calls Try.prog 41 #[.pointer none] w fun e w' => e = .returned (.int .i64 0) ∧ Below w.heap.size w w' := by
 go_enter Try.func41, Try.ntmps41
 go_wp2
 go_ret
 exact ⟨rfl, Below.refl _ _⟩
set_option maxRecDepth 100000 in
set_option maxHeartbeats 2000000 in
theorem heap_Len.calls (h : HP w base g sv lv S L sok lok) :
  Calls Try.prog 41 #[ptr g] w fun e w' => e = .returned (.int .i64 L.length) ∧ Below w.heap.size w w' := by
 obtain ⟨A, c, rfl, hc, hm⟩ := h.list
 obtain ⟨c0, c1, _, _⟩ := bk2 h.blk
 clear h
 go_enter Try.func41, Try.ntmps41
 go_wp2
 go_ret
 exact ⟨rfl, Below.refl _ _⟩
def isO (L : List (Int × List Int)) (obj : Int) : Bool := decide (1 ≤ obj ∧ obj ≤ (L.length : Int))
set_option maxRecDepth 100000 in
set_option maxHeartbeats 2000000 in
theorem heap_is.nil (obj : Int) (w : World) : Calls Try.prog 83 #[.pointer none, .int .i64 obj] w fun e w' => e = .returned (.bool false) ∧ Below w.heap.size w w' := by
 by_cases h1 : obj ≥ 1
 ·have d1 : decide (obj ≥ 1) = true := decide_eq_true h1
  have d2 : decide (obj ≤ 0) = false := decide_eq_false (by omega)
  go_enter Try.func83, Try.ntmps83
  go_wp2_with fail
  refine (heap_Len.nil w).mono ?_
  rintro e w1 ⟨rfl, hb⟩
  have HB := Aside0.mk hb; clear hb
  go_wp2
  go_ret
  exact ⟨rfl, HB.out⟩
 ·have d1 : decide (obj ≥ 1) = false := decide_eq_false h1
  go_enter Try.func83, Try.ntmps83
  go_wp2
  go_ret
  exact ⟨rfl, Below.refl _ _⟩
set_option maxRecDepth 100000 in
set_option maxHeartbeats 2000000 in
theorem heap_is.calls (obj : Int) (h : HP w base g sv lv S L sok lok) :
  Calls Try.prog 83 #[ptr g, .int .i64 obj] w fun e w' => e = .returned (.bool (isO L obj)) ∧ Below w.heap.size w w' := by
 have H := Aside0.mk h; clear h
 unfold isO
 by_cases h1 : obj ≥ 1
 ·have d1 : decide (obj ≥ 1) = true := decide_eq_true h1
  have e : decide (1 ≤ obj ∧ obj ≤ (L.length : Int)) = decide (obj ≤ (L.length : Int)) := by rw [decide_eq_decide]; omega
  rw [e]
  go_enter Try.func83, Try.ntmps83
  go_wp2_with fail
  refine (heap_Len.calls H.out).mono ?_
  rintro e w1 ⟨rfl, hb⟩
  have HB := Aside0.mk hb; clear hb
  go_wp2
  go_ret
  exact ⟨rfl, HB.out⟩
 ·have d1 : decide (obj ≥ 1) = false := decide_eq_false h1
  have e : decide (1 ≤ obj ∧ obj ≤ (L.length : Int)) = false := decide_eq_false (by omega)
  rw [e]
  go_enter Try.func83, Try.ntmps83
  go_wp2
  go_ret
  exact ⟨rfl, Below.refl _ _⟩
end
def atO (S : List S43) (name : ByteArray) : Int := findR (nameIs name) S
def zerosO (S : List S43) (i : Int) : List Int := List.replicate (rd_T43 S i).f1.length 0
def mkL (S : List S43) (L : List (Int × List Int)) (name : ByteArray) : List (Int × List Int) := if atO S name < 0 ∨ L.length = 131072 then L else L ++ [(atO S name, zerosO S (atO S name))]
def mkN (S : List S43) (L : List (Int × List Int)) (name : ByteArray) : Int := if atO S name < 0 ∨ L.length = 131072 then 0 else (L.length : Int) + 1
def mkE (S : List S43) (L : List (Int × List Int)) (name : ByteArray) : Int := if atO S name < 0 then 13 else if L.length = 131072 then 4 else 0
theorem infoOb : (Try.prog.info? 119).map (fun i => (i.zero, i.size, i.bytes)) = some (some (.agg #[.int .i64 0, .slice none 0 0]), kOb.sz, 32) := by kernel_rfl
theorem infoInt : (Try.prog.info? 3).map (fun i => (i.zero, i.size, i.bytes)) = some (some (.int .i64 0), (Kd.int .i64).sz, 8) := by kernel_rfl
/-- What a call of a heap's may turn. -/
def Turns (g : Nat) (lok : Nat → Prop) : Nat → Prop := fun k => k = g ∨ lok k
def heap_Make.T8 : Bool × List (List Nat × List Nat) := (true, [([], []), ([], []), ([1], [1]), ([2], [2]), ([3], [3]), ([], []), ([], []), ([6], [6]), ([7], [7]), ([8], [8]), ([], []), ([9, 10], [9, 10]), ([11], [11]), ([12], [12]), ([13], [13]), ([14, 14], [14]), ([5, 15], [5, 15]), ([16], [16]), ([4, 17], [4, 17]), ([0, 0, 1, 2, 3, 4, 5, 6, 7, 8, 9, 10, 11, 12, 13, 14, 15, 16, 17, 18], [0]), ([19, 0, 1, 2, 3, 4, 5, 6, 7, 8, 9, 10, 11, 12, 13, 14, 15, 16, 17, 18], [19]), ([20, 18, 18, 0, 1, 2, 3, 4, 5, 6, 7, 8, 9, 10, 11, 12, 13, 14, 15, 16, 17, 18], [18, 20])])
def heap_Make.B8 : List Nat := [0, 0, 2, 6, 14, 0, 0, 64, 192, 448, 0, 1984, 4032, 8128, 16320, 32704, 65504, 131040, 262142, 524287, 1048575, 2097151]
theorem heap_Make.tab8 : rtab .any (opsOf Try.f34 8) = heap_Make.T8 := by kernel_rfl
theorem heap_Make.bits8 : waitsOk heap_Make.T8.2 heap_Make.B8 = true := by kernel_rfl
section
variable {base g : Nat} {w : World} {sv lv : Value} {S : List S43} {L : List (Int × List Int)} {sok lok : Nat → Prop}
set_option maxRecDepth 100000 in
set_option maxHeartbeats 2000000 in
theorem heap_Make.nil (name : ByteArray) (w : World) : Calls Try.prog 34 #[.pointer none, .string name] w fun e w' => e = .returned (.tuple #[.int .i64 0, .int .i64 13]) ∧ Below w.heap.size w w' := by
 go_enter Try.func34, Try.ntmps34
 go_wp2
 go_ret2
 exact ⟨rfl, Below.refl _ _⟩
set_option maxRecDepth 100000 in
set_option maxHeartbeats 8000000 in
theorem heap_Make.calls (name : ByteArray) (h : HP w base g sv lv S L sok lok) (hL : L.length ≤ 131072) (hF : ∀ x ∈ S, x.f1.length ≤ 1000000) :
  Calls Try.prog 34 #[ptr g, .string name] w fun e w' => e = .returned (.tuple #[.int .i64 (mkN S L name), .int .i64 (mkE S L name)]) ∧
   ∃ lv' lok', HP w' base g sv lv' S (mkL S L name) sok lok' ∧ (∀ k, lok' k → lok k ∨ w.heap.size ≤ k) ∧ Kept w w' (Turns g lok) ∧ Below base w w' := by
 have hbase : base ≤ w.heap.size := Nat.le_trans h.low (Nat.le_of_lt (blk_lt h.blk))
 obtain ⟨A, c, rfl, hc, hC⟩ := h.structs
 obtain ⟨Al, cl, rfl, hcl, hm⟩ := h.list
 obtain ⟨c0, c1, _, _⟩ := bk2 h.blk
 have hfind := kind_Find.calls A c S name (placeOf (findR (nameIs name) S)).1 (placeOf (findR (nameIs name) S)).2 w hC hc rfl
 obtain ⟨a, ha⟩ : ∃ a, a = atO S name := ⟨_, rfl⟩
 have ha' : findR (nameIs name) S = a := ha.symm
 rw [ha'] at hfind
 unfold mkN mkE mkL
 rw [← ha]
 have H := Aside0.mk h
 by_cases hneg : a < 0
 ·rw [if_pos (show a < 0 ∨ L.length = 131072 from .inl hneg), if_pos hneg, if_pos (show a < 0 ∨ L.length = 131072 from .inl hneg)]
  have hp : placeOf a = (0, false) := if_pos hneg
  rw [hp] at hfind
  have HFI := Aside0.mk hfind; clear hfind h hC ha ha'
  go_enter Try.func34, Try.ntmps34
  go_wp2_with fail
  refine HFI.out.mono ?_
  rintro e w1 ⟨rfl, hb⟩
  have HB := Aside0.mk hb; clear hb c0 c1
  go_wp2
  go_ret2
  exact ⟨rfl, _, lok, H.out.below HB.out, fun k hk => .inl hk, Kept.of_below HB.out _, HB.out.mono hbase⟩
 ·obtain ⟨n, rfl⟩ : ∃ n : Nat, a = n := ⟨a.toNat, by omega⟩
  have hp : placeOf (n : Int) = ((n : Int), true) := if_neg hneg
  have hn : n < S.length := find_lt ha'
  rw [hp] at hfind
  rw [if_neg hneg]
  have HFI := Aside0.mk hfind; clear hfind
  by_cases hfull : L.length = 131072
  ·rw [if_pos (show (n : Int) < 0 ∨ L.length = 131072 from .inr hfull), if_pos hfull, if_pos (show (n : Int) < 0 ∨ L.length = 131072 from .inr hfull)]
   have heq : ((L.length : Int) == 131072) = true := by rw [hfull]; rfl
   clear h hC ha ha'
   go_enter Try.func34, Try.ntmps34
   go_wp2_with fail
   refine HFI.out.mono ?_
   rintro e w1 ⟨rfl, hb⟩
   have HB := Aside0.mk hb; clear hb c0 c1
   obtain ⟨c0, c1, _, _⟩ := bk2 (H.out.below HB.out).blk
   go_wp2
   go_ret2
   exact ⟨rfl, _, lok, H.out.below HB.out, fun k hk => .inl hk, Kept.of_below HB.out _, HB.out.mono hbase⟩
  ·rw [if_neg (show ¬ ((n : Int) < 0 ∨ L.length = 131072) by omega), if_neg hfull, if_neg (show ¬ ((n : Int) < 0 ∨ L.length = 131072) by omega)]
   have heq : ((L.length : Int) == 131072) = false := beq_eq_false_iff_ne.mpr (by omega)
   have hlf : (rd_T43 S (n : Int)).f1.length ≤ 1000000 := hF _ (by
    unfold rd_T43
    rw [Int.toNat_natCast, getD_at _ _ hn]
    exact List.getElem_mem hn)
   have HLF := Aside0.mk hlf
   clear h hC ha ha' hF hlf
   go_enter Try.func34, Try.ntmps34
   go_wp2_with fail
   refine HFI.out.mono ?_
   rintro e w1 ⟨rfl, hb⟩
   have HB := Aside0.mk hb; clear hb c0 c1
   obtain ⟨c0, c1, _, _⟩ := bk2 (H.out.below HB.out).blk
   go_upto_region 8 with (fail)
   clear c0 c1
   have HK2 := Aside0.mk (below_drew1 HB.out)
   have H2 := Aside0.mk (H.out.below HK2.out)
   clear H HFI
   obtain ⟨ad, A1, c1', e1, _, hfc, hlc, _⟩ := at_T43 (Kd.V_reads' H2.out.sts).2.2 (n : Int) (by omega) (by omega)
   subst e1
   simp only [Int.toNat_natCast] at hfc
   obtain ⟨F, hFe⟩ : ∃ F, F = (rd_T43 S (n : Int)).f1 := ⟨_, rfl⟩
   rw [← hFe] at hfc hlc
   have HFE := Aside0.mk hFe
   rw [← hFe] at HLF
   obtain ⟨Lx, hLx⟩ : ∃ Lx, Lx = L ++ [((n : Int), List.replicate F.length (0 : Int))] := ⟨_, rfl⟩
   have HLX := Aside0.mk hLx
   have hln : (Lx.length : Int) = (L.length : Int) + 1 := by rw [hLx]; simp
   have HLN := Aside0.mk hln
   clear hFe HB hLx hln
   refine start_ (n := 22) (S := fun w' => w'.heap[g]? = some (.cells #[.slice (some ad) S.length c, .slice Al L.length cl] 116 (0, 0))) (ds := [21]) (tf 0 22) (by kernel_rfl) rfl rfl (H2.out.blk) (fun hHeld => ?_)
   refine with_tabW heap_Make.tab8 heap_Make.bits8 (fun HT_ HW_ => ?_)
   generalize w1.drew = w2 at H2 HK2 hfc hHeld ⊢
   refine pure_ (i := 0) (N := some 29) (v := ?_) (a' := ?_) (tf 1 21) rfl rfl (any_of HT_.out (by kernel_rfl)) (fun _ _ _ h => h) (Or.inl ⟨by rfl, ?_⟩) ?_ ?_
   rotate_left
   ·intro w'
    go_simp
    with_reducible rfl
   rotate_left
   ·simp only [Act.put, List.setIfInBounds_toArray, List.set_cons_zero, List.set_cons_succ, i64_w, i32_w]
    rfl
   refine pure_ (i := 1) (N := some 30) (v := ?_) (a' := ?_) (tf 2 20) rfl rfl (any_of HT_.out (by kernel_rfl)) (fun _ _ _ h => h) (Or.inl ⟨by rfl, ?_⟩) ?_ ?_
   rotate_left
   ·intro w'
    go_simp
    with_reducible rfl
   rotate_left
   ·simp only [Act.put, List.setIfInBounds_toArray, List.set_cons_zero, List.set_cons_succ, i64_w, i32_w]
    rfl
   refine pure_ (i := 2) (N := some 31) (v := ?_) (a' := ?_) (tf 3 19) rfl rfl (any_of HT_.out (by kernel_rfl)) (fun _ _ _ h => h) (Or.inl ⟨by rfl, ?_⟩) ?_ ?_
   rotate_left
   ·intro w'
    go_simp
    with_reducible rfl
   rotate_left
   ·simp only [Act.put, List.setIfInBounds_toArray, List.set_cons_zero, List.set_cons_succ, i64_w, i32_w]
    rfl
   refine pure_ (i := 3) (N := some 32) (v := ?_) (a' := ?_) (tf 4 18) rfl rfl (any_of HT_.out (by kernel_rfl)) (fun _ _ _ h => h) (Or.inl ⟨by rfl, ?_⟩) ?_ ?_
   rotate_left
   ·intro w'
    go_simp
    with_reducible rfl
   rotate_left
   ·simp only [Act.put, List.setIfInBounds_toArray, List.set_cons_zero, List.set_cons_succ, i64_w, i32_w]
    rfl
   refine pure_ (i := 5) (N := some 34) (v := ?_) (a' := ?_) #[true, true, true, true, false, true, false, false, false, false, false, false, false, false, false, false, false, false, false, false, false, false] rfl rfl (any_of HT_.out (by kernel_rfl)) (fun _ _ _ h => h) (Or.inl ⟨by rfl, ?_⟩) ?_ ?_
   rotate_left
   ·intro w'
    go_simp
    with_reducible rfl
   rotate_left
   ·simp only [Act.put, List.setIfInBounds_toArray, List.set_cons_zero, List.set_cons_succ, i64_w, i32_w]
    rfl
   refine pure_ (i := 6) (N := some 35) (v := ?_) (a' := ?_) #[true, true, true, true, false, true, true, false, false, false, false, false, false, false, false, false, false, false, false, false, false, false] rfl rfl (any_of HT_.out (by kernel_rfl)) (fun _ _ _ h => h) (Or.inl ⟨by rfl, ?_⟩) ?_ ?_
   rotate_left
   ·intro w'
    go_simp
    with_reducible rfl
   rotate_left
   ·simp only [Act.put, List.setIfInBounds_toArray, List.set_cons_zero, List.set_cons_succ, i64_w, i32_w]
    rfl
   refine pure_ (i := 7) (N := some 36) (v := ?_) (a' := ?_) #[true, true, true, true, false, true, true, true, false, false, false, false, false, false, false, false, false, false, false, false, false, false] rfl rfl (any_of HT_.out (by kernel_rfl)) (fun _ _ _ h => h) (Or.inl ⟨by rfl, ?_⟩) ?_ ?_
   rotate_left
   ·intro w'
    go_simp
    with_reducible rfl
   rotate_left
   ·simp only [Act.put, List.setIfInBounds_toArray, List.set_cons_zero, List.set_cons_succ, i64_w, i32_w]
    rfl
   refine pure_ (i := 8) (N := some 37) (v := ?_) (a' := ?_) #[true, true, true, true, false, true, true, true, true, false, false, false, false, false, false, false, false, false, false, false, false, false] rfl rfl (any_of HT_.out (by kernel_rfl)) (fun _ _ _ h => h) (Or.inl ⟨by rfl, ?_⟩) ?_ ?_
   rotate_left
   ·intro w'
    go_simp
    with_reducible rfl
   rotate_left
   ·simp only [Act.put, List.setIfInBounds_toArray, List.set_cons_zero, List.set_cons_succ, i64_w, i32_w]
    rfl
   refine pure_ (i := 10) (N := some 39) (v := ?_) (a' := ?_) #[true, true, true, true, false, true, true, true, true, false, true, false, false, false, false, false, false, false, false, false, false, false] rfl rfl (any_of HT_.out (by kernel_rfl)) (fun _ _ _ h => h) (Or.inl ⟨by rfl, ?_⟩) ?_ ?_
   rotate_left
   ·intro w'
    go_simp
    with_reducible rfl
   rotate_left
   ·simp only [Act.put, List.setIfInBounds_toArray, List.set_cons_zero, List.set_cons_succ, i64_w, i32_w]
    rfl
   refine take_ (i := 4) (N := some 33) (v := ?_) (a' := ?_) #[true, true, true, true, true, true, true, true, true, false, true, false, false, false, false, false, false, false, false, false, false, false] rfl rfl (take_ofW HT_.out HW_.out (by kernel_rfl)) (fun _ _ _ h => h) (Or.inl ⟨by rfl, ?_⟩) hHeld ?_ ?_
   rotate_left
   ·intro w' s0
    obtain ⟨c0, c1, _, _⟩ := bk2 s0
    go_simp
    with_reducible rfl
   rotate_left
   ·simp only [Act.put, List.setIfInBounds_toArray, List.set_cons_zero, List.set_cons_succ, i64_w, i32_w]
    rfl
   refine take_ (i := 9) (N := some 38) (v := ?_) (a' := ?_) (tf 11 11) rfl rfl (take_ofW HT_.out HW_.out (by kernel_rfl)) (fun _ _ _ h => h) (Or.inl ⟨by rfl, ?_⟩) hHeld ?_ ?_
   rotate_left
   ·intro w' s0
    obtain ⟨c0, c1, _, _⟩ := bk2 s0
    go_simp
    with_reducible rfl
   rotate_left
   ·simp only [Act.put, List.setIfInBounds_toArray, List.set_cons_zero, List.set_cons_succ, i64_w, i32_w]
    rfl
   refine pure_ (i := 11) (N := some 40) (v := ?_) (a' := ?_) (tf 12 10) rfl rfl (any_of HT_.out (by kernel_rfl)) (fun _ _ _ h => h) (Or.inl ⟨by rfl, ?_⟩) ?_ ?_
   rotate_left
   ·intro w'
    go_simp
    with_reducible rfl
   rotate_left
   ·simp only [Act.put, List.setIfInBounds_toArray, List.set_cons_zero, List.set_cons_succ, i64_w, i32_w]
    rfl
   refine pure_ (i := 12) (N := some 41) (v := ?_) (a' := ?_) (tf 13 9) rfl rfl (any_of HT_.out (by kernel_rfl)) (fun _ _ _ h => h) (Or.inl ⟨by rfl, ?_⟩) ?_ ?_
   rotate_left
   ·intro w'
    go_simp
    with_reducible rfl
   rotate_left
   ·simp only [Act.put, List.setIfInBounds_toArray, List.set_cons_zero, List.set_cons_succ, i64_w, i32_w]
    rfl
   refine one_ (i := 13) (N := some 42) (tf 14 8) rfl rfl (one_of HT_.out (by kernel_rfl)) (by decide) (fun K hK => ?_)
   refine value_ (w1 := ?_) (v := ?_) (by rfl) rfl ?_ ?_
   rotate_left 2
   ·go_simp
    constructor
    ·rfl
    ·rfl
   refine hK.out _ _ (hHeld) (fun hHeld => ?_)
   clear hK K
   refine norm_ (a' := ?_) ?_ ?_
   rotate_left
   ·show Act.put _ (some 42) _ = _
    simp only [Act.put, List.setIfInBounds_toArray, List.set_cons_zero, List.set_cons_succ, i64_w, i32_w]
    rfl
   refine pure_ (i := 14) (N := some 43) (v := ?_) (a' := ?_) (tf 15 7) rfl rfl (any_of HT_.out (by kernel_rfl)) (fun _ _ _ h => h) (Or.inl ⟨by rfl, ?_⟩) ?_ ?_
   rotate_left
   ·intro w'
    go_simp
    with_reducible rfl
   rotate_left
   ·simp only [Act.put, List.setIfInBounds_toArray, List.set_cons_zero, List.set_cons_succ, i64_w, i32_w]
    rfl
   refine one_ (i := 15) (N := some 44) (tf 16 6) rfl rfl (one_of HT_.out (by kernel_rfl)) (by decide) (fun K hK => ?_)
   refine Kd.R_make_step (Kd.int .i64) (w0 := w2) w2.heap.size 3 (by rfl) (N := 44) rfl 45 _ _ rfl (F.length : Int) rfl rfl Try.underlying45 (.int .i64 0) 8 infoInt rfl (by decide) (by decide) (0 : Int) (ok := fun _ => True) (okp := fun _ => True) rfl (fun _ h_ => h_) trivial (by omega) (by have := HLF.out; omega) (Below.refl _ _) (Nat.le_refl _) ?_
   intro v3 w3 hr3 hb3 hg3 hn3
   rw [Int.toNat_natCast] at hr3
   obtain ⟨A3, c3, e3⟩ := Kd.R_slice hr3
   rw [List.length_replicate] at e3
   subst e3
   have HR3 := Aside0.mk hr3
   have H3 := Aside0.mk (H2.out.below hb3)
   have HB3 := Aside0.mk hb3
   clear hg3 hn3 hr3
   refine hK.out _ _ ((blkB hHeld hb3)) (fun hHeld => ?_)
   clear hK K
   refine norm_ (a' := ?_) ?_ ?_
   rotate_left
   ·show Act.put _ (some 44) _ = _
    simp only [Act.put, List.setIfInBounds_toArray, List.set_cons_zero, List.set_cons_succ, i64_w, i32_w]
    rfl
   refine pure_ (i := 16) (N := some 45) (v := ?_) (a' := ?_) (tf 17 5) rfl rfl (any_of HT_.out (by kernel_rfl)) (fun _ _ _ h => h) (Or.inl ⟨by rfl, ?_⟩) ?_ ?_
   rotate_left
   ·intro w'
    go_simp
    with_reducible rfl
   rotate_left
   ·simp only [Act.put, List.setIfInBounds_toArray, List.set_cons_zero, List.set_cons_succ, i64_w, i32_w]
    rfl
   refine one_ (i := 17) (N := some 46) (tf 18 4) rfl rfl (one_of HT_.out (by kernel_rfl)) (by decide) (fun K hK => ?_)
   refine value_ (w1 := ?_) (v := ?_) (by rfl) rfl ?_ ?_
   rotate_left 2
   ·go_simp
    constructor
    ·rfl
    ·rfl
   refine hK.out _ _ ((blk_alloc hHeld _)) (fun hHeld => ?_)
   clear hK K
   refine norm_ (a' := ?_) ?_ ?_
   rotate_left
   ·show Act.put _ (some 46) _ = _
    simp only [Act.put, List.setIfInBounds_toArray, List.set_cons_zero, List.set_cons_succ, i64_w, i32_w]
    rfl
   refine one_ (i := 18) (N := some 47) (tf 19 3) rfl rfl (one_of HT_.out (by kernel_rfl)) (by decide) (fun K hK => ?_)
   refine Kd.S_append_step kOb (w0 := w3) base (by rfl) (.tmp 33) (.tmp 46) 114 119 (.agg #[.int .i64 0, .slice none 0 0]) 32 rfl Try.underlying114 infoOb rfl (by decide) (by decide) (.slice Al L.length cl) L ((n : Int), List.replicate F.length (0 : Int)) [.int .i64 n, .slice A3 F.length c3] (fun k => (k ≠ g ∧ ¬ sok k) ∧ (lok k ∨ w2.heap.size ≤ k)) (fun k => some k = (Value.slice A3 F.length c3).ownBlock) rfl rfl ?aP ?aK ?aF ?aO (Below.refl _ _) ?aS ?aL ?_
   case aP => exact kOb_mkM _ _ _ ((n : Int), List.replicate F.length (0 : Int)) (Kd.R_tight rfl (Kd.R_lower HR3.out (Nat.le_trans H2.out.low (Nat.le_of_lt (blk_lt H2.out.blk)))))
   case aK =>
    exact fun k hk => by
     have hge := Kd.R_base HR3.out k hk.symm
     refine ⟨⟨⟨fun e => ?_, fun e => ?_⟩, .inr hge⟩, fun e => ?_⟩
     ·have := blk_lt H2.out.blk; omega
     ·have := (H2.out.sap k e).2.2; omega
     ·have := (H2.out.lap k ((Kd.S_R H2.out.lst).1 k e.symm)).2.2; omega
   case aF =>
    exact fun k hk => by
     have hge := Nat.le_trans HB3.out.size hk
     refine ⟨⟨fun e => ?_, fun e => ?_⟩, .inr hge⟩
     ·have := blk_lt H2.out.blk; omega
     ·have := (H2.out.sap k e).2.2; omega
   case aO => exact Kd.S_mono H3.out.lst (fun k hk => ⟨⟨⟨(H2.out.lap k hk).1, fun e => (H2.out.sap k e).2.1 hk⟩, .inl hk⟩, fun e => by have := Kd.R_base HR3.out k e.symm; have := (H2.out.lap k hk).2.2; omega⟩)
   case aS => exact Nat.le_trans H3.out.low (Nat.le_of_lt (blk_lt H3.out.blk))
   case aL => omega
   intro v5 w5 ho5 _ hg5 _
   obtain ⟨hb6, lok', hq, hlo, hke, hbe⟩ := H3.out.appended ho5 hg5 (fun k hk => hk.1)
   rw [← HLX.out] at ho5 hq
   obtain ⟨Ax, cx, ex⟩ := Kd.S_slice ho5
   subst ex
   have HQ := Aside0.mk hq
   have HLO0 := Aside0.mk hlo
   have HKE0 := Aside0.mk hke
   have HBE0 := Aside0.mk hbe
   clear ho5 hg5 hq hlo hke hbe
   refine hK.out _ _ (hb6) (fun hHeld => ?_)
   clear hK K
   refine norm_ (a' := ?_) ?_ ?_
   rotate_left
   ·show Act.put _ (some 47) _ = _
    simp only [Act.put, List.setIfInBounds_toArray, List.set_cons_zero, List.set_cons_succ, i64_w, i32_w]
    rfl
   refine pure_ (i := 19) (N := some 48) (v := ?_) (a' := ?_) (tf 20 2) rfl rfl (any_of HT_.out (by kernel_rfl)) (fun _ _ _ h => h) (Or.inl ⟨by rfl, ?_⟩) ?_ ?_
   rotate_left
   ·intro w'
    go_simp
    with_reducible rfl
   rotate_left
   ·simp only [Act.put, List.setIfInBounds_toArray, List.set_cons_zero, List.set_cons_succ, i64_w, i32_w]
    rfl
   refine pure_ (i := 20) (N := some 49) (v := ?_) (a' := ?_) (tf 21 1) rfl rfl (any_of HT_.out (by kernel_rfl)) (fun _ _ _ h => h) (Or.inl ⟨by rfl, ?_⟩) ?_ ?_
   rotate_left
   ·intro w'
    go_simp
    with_reducible rfl
   rotate_left
   ·simp only [Act.put, List.setIfInBounds_toArray, List.set_cons_zero, List.set_cons_succ, i64_w, i32_w]
    rfl
   refine last_ (i := 21) (N := none) (tf 22 0) rfl rfl (one_of HT_.out (by kernel_rfl)) (by decide) (fun K hK => ?_)
   obtain ⟨y0, y1, z0, z1⟩ := bk2 hHeld
   refine skip_ (w1 := ?_) (by rfl) rfl ?_ ?_
   rotate_left
   ·go_simp
    rfl
   refine hK.out _ _ ?_
   clear hK K
   refine done_ (done_of HT_.out (by kernel_rfl)) ?_
   have HLO : Aside0 (∀ k, lok' k → lok k ∨ w.heap.size ≤ k) := ⟨fun k hk => (HLO0.out k hk).2.imp_right (fun h_ => Nat.le_trans HK2.out.size h_)⟩
   have HKE : Aside0 (Kept w (w5.setCell ⟨g, 1, none⟩ (.slice Ax Lx.length cx)) (Turns g lok)) := ⟨((Kept.of_below HK2.out (Turns g lok)).below HB3.out).then_ HKE0.out (fun k hk => .inl hk)⟩
   have HBE : Aside0 (Below base w (w5.setCell ⟨g, 1, none⟩ (.slice Ax Lx.length cx))) := ⟨((HK2.out.mono hbase).trans (HB3.out.mono (Nat.le_trans H2.out.low (Nat.le_of_lt (blk_lt H2.out.blk))))).trans HBE0.out⟩
   clear HLO0 HKE0 HBE0
   generalize w5.setCell ⟨g, 1, none⟩ (.slice Ax Lx.length cx) = w6 at HQ HKE HBE ⊢
   obtain ⟨x0, x1, _, _⟩ := bk2 HQ.out.blk
   go_wp2
   go_ret2
   have hz : zerosO S (n : Int) = List.replicate F.length 0 := by unfold zerosO; rw [← HFE.out]
   rw [hz, ← HLX.out]
   exact ⟨by rw [HLN.out]; rfl, _, _, HQ.out, HLO.out, HKE.out, HBE.out⟩
end
theorem info_field : (Try.prog.info? 48).map (fun i => (i.zero, i.size, i.bytes)) = some (some (.agg #[(.string ⟨#[]⟩), (.string ⟨#[]⟩)]), 2, 32) := by kernel_rfl
set_option maxRecDepth 100000 in
set_option maxHeartbeats 2000000 in
theorem clone_slices_Clone_int_int (A : Option Addr) (c : Nat) (l : List Int) (w : World) (hr : (Kd.int .i64).C w A l.length l) (hc : l.length ≤ c) (hl : l.length ≤ 1000000) :
  Calls Try.prog 82 #[.slice A l.length c] w fun e w' => ∃ v0_ : Value, e = .returned (v0_) ∧ Kd.R (Kd.int .i64) 3 w' w.heap.size (fun _ => True) v0_ l ∧ Below w.heap.size w w' := by
 have HR := Aside0.mk hr
 have HL := Aside0.mk hl
 cases A with
 | none =>
  have heq : ∀ W : World, (binOp .eql 45 (.slice none l.length c) (.slice none 0 0)).run Try.prog W = .ok (.bool true) W := fun W => rfl
  have h0 : l = [] := by
   by_cases h : 0 < l.length
   ·obtain ⟨ad, e, _⟩ := hr.2.2 h
    cases e
   ·exact List.eq_nil_of_length_eq_zero (by omega)
  have H0 := Aside0.mk h0; clear h0
  clear hr hl
  go_enter Try.func82, Try.ntmps82
  go_wp2
  go_ret
  exact ⟨_, rfl, by rw [H0.out]; exact Kd.R_nil _ _ _ _ _, Below.refl _ _⟩
 | some ad =>
  have heq : ∀ W : World, (binOp .eql 45 (.slice (some ad) l.length c) (.slice none 0 0)).run Try.prog W = .ok (.bool false) W := fun W => rfl
  clear hr hl
  go_enter Try.func82, Try.ntmps82
  go_wp2_with (first | ((with_reducible refine gate_dst (N := 5) rfl ?_); refine Kd.R_lit (Kd.int .i64) (w0 := w) w.heap.size 3 ?hg (N := 5) ?hd (xs := ([] : List Int)) (inner := []) (ok := fun _ => True) (okp := fun _ => True) ?hr ?hp (fun _ hk => hk) trivial (Below.refl _ _) (Nat.le_refl _) (by simp) ?_; (case hd => rfl); (case hg => rfl); (case hr => first | (go_simp; done) | (go_simp; rfl)); (case hp => exact Reps.none _ _); intro v1 w1 ho hb hg_ hnew_; have HO := Aside0.mk ho; have HB := Aside0.mk hb; clear ho hb hg_ hnew_) | ((with_reducible refine gate_builtin (b := .append) (xs := #[.tmp 5, .tmp 6]) rfl ?_); at_builtin; refine Kd.R_append_rows (Kd.int .i64) (Rr := (Kd.int .i64).K w1) (w0 := w) w.heap.size rfl (.tmp 5) (.tmp 6) 45 3 (.int .i64 0) 8 rfl Try.underlying45 info3 rfl (by decide) (by omega) v1 [] l (some ad) l.length c (fun _ => True) (fun _ => False) rfl rfl HO.out (Kd.C_below HR.out HB.out) (fun _ _ hk => hk) (fun _ hk => hk.elim) (fun _ _ => trivial) HB.out HB.out.size ?aL ?_; (case aL => have := HL.out; simp; omega); intro v2 w2 ho hb hg_ hat_; have HO2 := Aside0.mk ho; have HB2 := Aside0.mk hb; clear ho hb hg_ hat_))
  go_ret
  exact ⟨_, rfl, HO2.out, HB2.out⟩
def slices_Clone_int_int.f (l0 : List Int) : Option (List Int) := if l0.length ≤ 1000000 then some l0 else none
theorem slices_Clone_int_int.calls (A0 : Option Addr) (c0 : Nat) (l0 : List Int) (r : List Int) (w : World) (hr0 : Kd.C (Kd.int .i64) w A0 l0.length l0) (hc0 : l0.length ≤ c0) (h : slices_Clone_int_int.f l0 = some r) :
  Calls Try.prog 82 #[.slice A0 l0.length c0] w fun e w' => ∃ v0_ : Value, e = .returned (v0_) ∧ Kd.R (Kd.int .i64) 3 w' w.heap.size (fun _ => True) v0_ r ∧ Below w.heap.size w w' := by
 unfold slices_Clone_int_int.f at h
 split at h
 case isFalse => cases h
 rename_i hl
 obtain rfl := Option.some.inj h
 exact clone_slices_Clone_int_int A0 c0 l0 w hr0 hc0 hl
set_option maxRecDepth 100000 in
set_option maxHeartbeats 2000000 in
theorem clone_api_Field_ (A : Option Addr) (c : Nat) (l : List S48) (w : World) (hr : k48.C w A l.length l) (hc : l.length ≤ c) (hl : l.length ≤ 1000000) :
  Calls Try.prog 80 #[.slice A l.length c] w fun e w' => ∃ v0_ : Value, e = .returned (v0_) ∧ Kd.R k48 48 w' w.heap.size (fun _ => True) v0_ l ∧ Below w.heap.size w w' := by
 have HR := Aside0.mk hr
 have HL := Aside0.mk hl
 cases A with
 | none =>
  have heq : ∀ W : World, (binOp .eql 41 (.slice none l.length c) (.slice none 0 0)).run Try.prog W = .ok (.bool true) W := fun W => rfl
  have h0 : l = [] := by
   by_cases h : 0 < l.length
   ·obtain ⟨ad, e, _⟩ := hr.2.2 h
    cases e
   ·exact List.eq_nil_of_length_eq_zero (by omega)
  have H0 := Aside0.mk h0; clear h0
  clear hr hl
  go_enter Try.func80, Try.ntmps80
  go_wp2
  go_ret
  exact ⟨_, rfl, by rw [H0.out]; exact Kd.R_nil _ _ _ _ _, Below.refl _ _⟩
 | some ad =>
  have heq : ∀ W : World, (binOp .eql 41 (.slice (some ad) l.length c) (.slice none 0 0)).run Try.prog W = .ok (.bool false) W := fun W => rfl
  clear hr hl
  go_enter Try.func80, Try.ntmps80
  go_wp2_with (first | ((with_reducible refine gate_dst (N := 5) rfl ?_); refine Kd.R_lit k48 (w0 := w) w.heap.size 48 ?hg (N := 5) ?hd (xs := ([] : List S48)) (inner := []) (ok := fun _ => True) (okp := fun _ => True) ?hr ?hp (fun _ hk => hk) trivial (Below.refl _ _) (Nat.le_refl _) (by simp) ?_; (case hd => rfl); (case hg => rfl); (case hr => first | (go_simp; done) | (go_simp; rfl)); (case hp => exact Reps.none _ _); intro v1 w1 ho hb hg_ hnew_; have HO := Aside0.mk ho; have HB := Aside0.mk hb; clear ho hb hg_ hnew_) | ((with_reducible refine gate_builtin (b := .append) (xs := #[.tmp 5, .tmp 6]) rfl ?_); at_builtin; refine Kd.R_append_rows k48 (Rr := k48.K w1) (w0 := w) w.heap.size rfl (.tmp 5) (.tmp 6) 41 48 (.agg #[(.string ⟨#[]⟩), (.string ⟨#[]⟩)]) 32 rfl Try.underlying41 info_field rfl (by decide) (by omega) v1 [] l (some ad) l.length c (fun _ => True) (fun _ => False) rfl rfl HO.out (Kd.C_below HR.out HB.out) (fun _ _ hk => hk) (fun _ hk => hk.elim) (fun _ _ => trivial) HB.out HB.out.size ?aL ?_; (case aL => have := HL.out; simp; omega); intro v2 w2 ho hb hg_ hat_; have HO2 := Aside0.mk ho; have HB2 := Aside0.mk hb; clear ho hb hg_ hat_))
  go_ret
  exact ⟨_, rfl, HO2.out, HB2.out⟩
def api_Field_80.f (l0 : List S48) : Option (List S48) := if l0.length ≤ 1000000 then some l0 else none
theorem api_Field_80.calls (A0 : Option Addr) (c0 : Nat) (l0 : List S48) (r : List S48) (w : World) (hr0 : Kd.C k48 w A0 l0.length l0) (hc0 : l0.length ≤ c0) (h : api_Field_80.f l0 = some r) :
  Calls Try.prog 80 #[.slice A0 l0.length c0] w fun e w' => ∃ v0_ : Value, e = .returned (v0_) ∧ Kd.R k48 48 w' w.heap.size (fun _ => True) v0_ r ∧ Below w.heap.size w w' := by
 unfold api_Field_80.f at h
 split at h
 case isFalse => cases h
 rename_i hl
 obtain rfl := Option.some.inj h
 exact clone_api_Field_ A0 c0 l0 w hr0 hc0 hl
theorem S_toV {α : Type} {d : Kd α} {e base base' : Nat} {w : World} {ok : Nat → Prop} {v : Value} {xs : List α} (h : Kd.S d e w base ok v xs) : Kd.V d e w base' ok v xs := by
 obtain ⟨A, c, rfl, hc, _⟩ := Kd.S_reads h
 exact Kd.V_mk hc (fun W' hW => (Kd.S_reads' (Kd.S_step h hW)).2.2)
theorem take_next {α : Type} (l : List α) (z : α) {i : Nat} (hi : i < l.length) : l.take (i + 1) = l.take i ++ [l.getD i z] := by
 rw [List.take_succ_eq_append_getElem hi, getD_at l z hi]
theorem infoSt : (Try.prog.info? 43).map (fun i => (i.zero, i.size, i.bytes)) = some (some (.agg #[.string ⟨#[]⟩, .slice none 0 0]), k43.sz, 40) := by kernel_rfl
def heap_New.T8 : Bool × List (List Nat × List Nat) := (true, [([], []), ([], []), ([1], [1]), ([2], [2]), ([3], [3]), ([], []), ([5], [5]), ([], []), ([7], [7]), ([8], [8]), ([6, 9], [6, 9]), ([10], [10]), ([4, 11, 9], [4, 11]), ([0, 0, 1, 2, 3, 4, 5, 6, 7, 8, 9, 10, 11, 12], [0]), ([13, 0, 1, 2, 3, 4, 5, 6, 7, 8, 9, 10, 11, 12], [13]), ([14, 12, 12, 0, 1, 2, 3, 4, 5, 6, 7, 8, 9, 10, 11, 12], [12, 14])])
def heap_New.B8 : List Nat := [0, 0, 2, 6, 14, 0, 32, 0, 128, 384, 992, 2016, 4094, 8191, 16383, 32767]
theorem heap_New.tab8 : rtab .any (opsOf Try.f33 8) = heap_New.T8 := by kernel_rfl
theorem heap_New.bits8 : waitsOk heap_New.T8.2 heap_New.B8 = true := by kernel_rfl
set_option maxRecDepth 100000 in
set_option maxHeartbeats 8000000 in
theorem heap_New.bad (k : Nat) (A0 : Option Addr) (c0 : Nat) (l0 : List S43) (r1 r2 : Int) (w : World) (hr0 : Kd.C k43 w A0 l0.length l0) (hc0 : l0.length ≤ c0) (hk : kind_Check.f k l0 = some (r1, r2)) (hne : (r2 != 0) = true) :
  Calls Try.prog 33 #[.slice A0 l0.length c0] w fun e w' => e = .returned (.pointer none) ∧ Below w.heap.size w w' := by
 have HC := Aside0.mk (kind_Check.calls k A0 c0 l0 r1 r2 w hr0 hc0 hk)
 clear hr0 hc0 hk
 go_enter Try.func33, Try.ntmps33
 go_wp2_with fail
 refine HC.out.mono ?_
 rintro e w1 ⟨rfl, hb⟩
 have HB := Aside0.mk hb; clear hb HC
 go_wp2
 go_ret
 exact ⟨rfl, HB.out⟩
set_option maxRecDepth 100000 in
set_option maxHeartbeats 8000000 in
theorem heap_New.calls (k : Nat) (A0 : Option Addr) (c0 : Nat) (l0 : List S43) (r1 : Int) (w : World) (hr0 : Kd.C k43 w A0 l0.length l0) (hc0 : l0.length ≤ c0) (hk : kind_Check.f k l0 = some (r1, 0)) (hlen : l0.length ≤ 1000000) (hF : ∀ x ∈ l0, x.f1.length ≤ 1000000) :
  Calls Try.prog 33 #[.slice A0 l0.length c0] w fun e w' => ∃ g sv sok, e = .returned (ptr g) ∧ HP w' w.heap.size g sv (.slice none 0 0) l0 [] sok (fun _ => False) ∧ Below w.heap.size w w' ∧ ∀ k, sok k → w.heap.size ≤ k := by
 have HC := Aside0.mk (kind_Check.calls k A0 c0 l0 r1 0 w hr0 hc0 hk)
 have HR0 := Aside0.mk hr0; have HC0 := Aside0.mk hc0; have HF := Aside0.mk hF
 have HMX := Aside0.mk (Kd.C_max hr0)
 clear hr0 hc0 hk hF
 have hmx := HMX.out
 go_enter Try.func33, Try.ntmps33
 go_wp2_with fail
 refine HC.out.mono ?_
 rintro e w1 ⟨rfl, hb⟩
 have HB := Aside0.mk hb; clear hb HC
 go_wp2_with fail
 have HG : Aside0 ((w1.alloc (.cells #[.slice none 0 0, .slice none 0 0] 116)).heap[w1.heap.size]? = some (.cells #[.slice none 0 0, .slice none 0 0] 116 (0, 0))) := ⟨blk_new _ _⟩
 have HB1 : Aside0 (Below w.heap.size w (w1.alloc (.cells #[.slice none 0 0, .slice none 0 0] 116))) := ⟨below_alloc HB.out _⟩
 have HGE : Aside0 (w.heap.size ≤ w1.heap.size) := ⟨HB.out.size⟩
 generalize w1.alloc (.cells #[.slice none 0 0, .slice none 0 0] 116) = w2 at HG HB1 ⊢
 generalize w1.heap.size = gh at HG HGE ⊢
 clear HB
 go_loopw [19] (fun v19 wr => ∃ (i : Nat) (v : Value), v19 = .int .i64 i ∧ i ≤ l0.length ∧ Aside0 (Below w.heap.size w wr) ∧ Aside0 (wr.heap[gh]? = some (.cells #[v, .slice none 0 0] 116 (0, 0))) ∧ Aside0 (Kd.S k43 43 wr w.heap.size (fun k => k ≠ gh) v (l0.take i))) (fun v19 _ => l0.length - (intOf v19).toNat)
 case atStart => exact ⟨0, .slice none 0 0, rfl, Nat.zero_le _, HB1, HG, ⟨by rw [List.take_zero]; exact Kd.S_nil _ _ _ _ _⟩⟩
 case round =>
  clear HB1 HG
  obtain ⟨i, v, rfl, hi, HB, HG, HS⟩ := hrel
  by_cases hlt : i < l0.length
  ·obtain ⟨ad, B1, d1, e1, hx0, hx1, hl1, hi1⟩ := at_T43 (Kd.C_below HR0.out HB.out) (i : Int) (by omega) (by omega)
   subst e1
   simp only [Int.toNat_natCast] at hx0 hx1
   obtain ⟨x, ex⟩ : ∃ x, x = rd_T43 l0 (i : Int) := ⟨_, rfl⟩
   rw [← ex] at hx0 hx1 hl1 hi1
   have hexg : l0.take (i + 1) = l0.take i ++ [x] := by
    rw [take_next l0 z43 hlt, ex]; rfl
   obtain ⟨Lj, hLj⟩ : ∃ Lj, Lj = l0.take (i + 1) := ⟨_, rfl⟩
   obtain ⟨Li, hLi⟩ : ∃ Li, Li = l0.take i := ⟨_, rfl⟩
   rw [← hLj, ← hLi] at hexg
   have htl : Li.length ≤ 1000000 := by rw [hLi, List.length_take]; omega
   have HTL := Aside0.mk htl
   rw [← hLi] at HS
   have HEX := Aside0.mk hexg; have HLJ := Aside0.mk hLj
   clear hLj hLi htl
   have hmem : x.f1.length ≤ 1000000 := HF.out x (by
    rw [ex]; unfold rd_T43
    rw [Int.toNat_natCast, getD_at _ _ hlt]
    exact List.getElem_mem hlt)
   have HMEM := Aside0.mk hmem
   have HI := Aside0.mk hi1
   have HL1 := Aside0.mk hl1
   clear ex hexg hmem hi1 hl1
   obtain ⟨Av, cv, ev⟩ := Kd.S_slice HS.out
   subst ev
   go_upto_region 8 with (fail)
   have HL2 : Aside0 ((wr.alloc (.cells #[.string x.f0, .slice B1 x.f1.length d1] 43)).heap[wr.heap.size]? = some (.cells #[.string x.f0, .slice B1 x.f1.length d1] 43 (0, 0))) := ⟨blk_new _ _⟩
   have HBA : Aside0 (Below wr.heap.size wr (wr.alloc (.cells #[.string x.f0, .slice B1 x.f1.length d1] 43))) := ⟨below_alloc (Below.refl _ _) _⟩
   clear hx0 hx1
   generalize wr.alloc (.cells #[.string x.f0, .slice B1 x.f1.length d1] 43) = wa at HL2 HBA ⊢
   have HVB : Aside0 (∀ k, (Value.slice Av Li.length cv).ownBlock = some k → k < wr.heap.size) := ⟨Kd.S_lt HS.out⟩
   have HGB : Aside0 (gh < wr.heap.size) := ⟨blk_lt HG.out⟩
   have HB2 := Aside0.mk (below_drew1 (below_step HB.out HBA.out))
   have HG2 := Aside0.mk (blk_drew (blk_below HG.out HBA.out))
   have HS2 := Aside0.mk (Kd.S_drew (Kd.S_below HS.out HBA.out))
   have HI2 := Aside0.mk (Kd.C_drew (Kd.C_below HI.out HBA.out))
   have HL3 := Aside0.mk (blk_drew HL2.out)
   clear HB HG HS HI HL2 HBA
   generalize wr.heap.size = bs at HL3 HVB HGB ⊢
   refine start_ (n := 16) (S := fun w' => w'.heap[gh]? = some (.cells #[.slice Av Li.length cv, .slice none 0 0] 116 (0, 0)) ∧ w'.heap[bs]? = some (.cells #[.string x.f0, .slice B1 x.f1.length d1] 43 (0, 0))) (ds := [15]) (tf 0 16) (by kernel_rfl) rfl rfl ⟨HG2.out, HL3.out⟩ (fun hHeld => ?_)
   refine with_tabW heap_New.tab8 heap_New.bits8 (fun HT_ HW_ => ?_)
   generalize wa.drew = w3 at HB2 HG2 HS2 HI2 HL3 hHeld ⊢
   refine pure_ (i := 0) (N := some 23) (v := ?_) (a' := ?_) (tf 1 15) rfl rfl (any_of HT_.out (by kernel_rfl)) (fun _ _ _ h => h) (Or.inl ⟨by rfl, ?_⟩) ?_ ?_
   rotate_left
   ·intro w'
    go_simp
    with_reducible rfl
   rotate_left
   ·simp only [Act.put, List.setIfInBounds_toArray, List.set_cons_zero, List.set_cons_succ, i64_w, i32_w]
    rfl
   refine pure_ (i := 1) (N := some 24) (v := ?_) (a' := ?_) (tf 2 14) rfl rfl (any_of HT_.out (by kernel_rfl)) (fun _ _ _ h => h) (Or.inl ⟨by rfl, ?_⟩) ?_ ?_
   rotate_left
   ·intro w'
    go_simp
    with_reducible rfl
   rotate_left
   ·simp only [Act.put, List.setIfInBounds_toArray, List.set_cons_zero, List.set_cons_succ, i64_w, i32_w]
    rfl
   refine pure_ (i := 2) (N := some 25) (v := ?_) (a' := ?_) (tf 3 13) rfl rfl (any_of HT_.out (by kernel_rfl)) (fun _ _ _ h => h) (Or.inl ⟨by rfl, ?_⟩) ?_ ?_
   rotate_left
   ·intro w'
    go_simp
    with_reducible rfl
   rotate_left
   ·simp only [Act.put, List.setIfInBounds_toArray, List.set_cons_zero, List.set_cons_succ, i64_w, i32_w]
    rfl
   refine pure_ (i := 3) (N := some 26) (v := ?_) (a' := ?_) (tf 4 12) rfl rfl (any_of HT_.out (by kernel_rfl)) (fun _ _ _ h => h) (Or.inl ⟨by rfl, ?_⟩) ?_ ?_
   rotate_left
   ·intro w'
    go_simp
    with_reducible rfl
   rotate_left
   ·simp only [Act.put, List.setIfInBounds_toArray, List.set_cons_zero, List.set_cons_succ, i64_w, i32_w]
    rfl
   refine pure_ (i := 5) (N := some 28) (v := ?_) (a' := ?_) #[true, true, true, true, false, true, false, false, false, false, false, false, false, false, false, false] rfl rfl (any_of HT_.out (by kernel_rfl)) (fun _ _ _ h => h) (Or.inl ⟨by rfl, ?_⟩) ?_ ?_
   rotate_left
   ·intro w'
    go_simp
    with_reducible rfl
   rotate_left
   ·simp only [Act.put, List.setIfInBounds_toArray, List.set_cons_zero, List.set_cons_succ, i64_w, i32_w]
    rfl
   refine pure_ (i := 7) (N := some 30) (v := ?_) (a' := ?_) #[true, true, true, true, false, true, false, true, false, false, false, false, false, false, false, false] rfl rfl (any_of HT_.out (by kernel_rfl)) (fun _ _ _ h => h) (Or.inl ⟨by rfl, ?_⟩) ?_ ?_
   rotate_left
   ·intro w'
    go_simp
    with_reducible rfl
   rotate_left
   ·simp only [Act.put, List.setIfInBounds_toArray, List.set_cons_zero, List.set_cons_succ, i64_w, i32_w]
    rfl
   refine take_ (i := 4) (N := some 27) (v := ?_) (a' := ?_) #[true, true, true, true, true, true, false, true, false, false, false, false, false, false, false, false] rfl rfl (take_ofW HT_.out HW_.out (by kernel_rfl)) (fun _ _ _ h => h) (Or.inl ⟨by rfl, ?_⟩) hHeld ?_ ?_
   rotate_left
   ·rintro w' ⟨s0, s1⟩
    obtain ⟨c0, c1, _, _⟩ := bk2 s0
    obtain ⟨b0, b1, _, _⟩ := bk2 s1
    go_simp
    with_reducible rfl
   rotate_left
   ·simp only [Act.put, List.setIfInBounds_toArray, List.set_cons_zero, List.set_cons_succ, i64_w, i32_w]
    rfl
   refine take_ (i := 6) (N := some 29) (v := ?_) (a' := ?_) (tf 8 8) rfl rfl (take_ofW HT_.out HW_.out (by kernel_rfl)) (fun _ _ _ h => h) (Or.inl ⟨by rfl, ?_⟩) hHeld ?_ ?_
   rotate_left
   ·rintro w' ⟨s0, s1⟩
    obtain ⟨c0, c1, _, _⟩ := bk2 s0
    obtain ⟨b0, b1, _, _⟩ := bk2 s1
    go_simp
    with_reducible rfl
   rotate_left
   ·simp only [Act.put, List.setIfInBounds_toArray, List.set_cons_zero, List.set_cons_succ, i64_w, i32_w]
    rfl
   refine take_ (i := 8) (N := some 31) (v := ?_) (a' := ?_) (tf 9 7) rfl rfl (take_ofW HT_.out HW_.out (by kernel_rfl)) (fun _ _ _ h => h) (Or.inl ⟨by rfl, ?_⟩) hHeld ?_ ?_
   rotate_left
   ·rintro w' ⟨s0, s1⟩
    obtain ⟨c0, c1, _, _⟩ := bk2 s0
    obtain ⟨b0, b1, _, _⟩ := bk2 s1
    go_simp
    with_reducible rfl
   rotate_left
   ·simp only [Act.put, List.setIfInBounds_toArray, List.set_cons_zero, List.set_cons_succ, i64_w, i32_w]
    rfl
   refine one_ (i := 9) (N := some 32) (tf 10 6) rfl rfl (one_of HT_.out (by kernel_rfl)) (by decide) (fun K hK => ?_)
   refine goes_ Try.func80 (by kernel_rfl) rfl #[.slice B1 x.f1.length d1] (by rfl) rfl rfl (by simp only [List.map_toArray, List.map_cons, List.map_nil]; rfl) ?_
   refine (api_Field_80.calls B1 d1 x.f1 x.f1 w3 HI2.out HL1.out (if_pos HMEM.out)).mono ?_
   rintro e w4 ⟨v4, rfl, hr4, hb4⟩
   refine ⟨_, rfl, ?_⟩
   obtain ⟨A4, c4, e4⟩ := Kd.R_slice hr4
   subst e4
   have HR4 := Aside0.mk hr4
   have HG4 := Aside0.mk (blkB hHeld.1 hb4)
   have HL4 := Aside0.mk (blkB hHeld.2 hb4)
   have HB4 := Aside0.mk (below_step HB2.out hb4)
   have HB34 := Aside0.mk hb4
   have HS4 := Aside0.mk (Kd.S_below (Kd.S_bound HS2.out) hb4)
   clear hr4
   refine hK.out _ _ ⟨(blkB hHeld.1 hb4), (blkB hHeld.2 hb4)⟩ (fun hHeld => ?_)
   clear hK K
   refine norm_ (a' := ?_) ?_ ?_
   rotate_left
   ·show Act.put _ (some 32) _ = _
    simp only [Act.put, List.setIfInBounds_toArray, List.set_cons_zero, List.set_cons_succ, i64_w, i32_w]
    rfl
   refine pure_ (i := 10) (N := some 33) (v := ?_) (a' := ?_) (tf 11 5) rfl rfl (any_of HT_.out (by kernel_rfl)) (fun _ _ _ h => h) (Or.inl ⟨by rfl, ?_⟩) ?_ ?_
   rotate_left
   ·intro w'
    go_simp
    with_reducible rfl
   rotate_left
   ·simp only [Act.put, List.setIfInBounds_toArray, List.set_cons_zero, List.set_cons_succ, i64_w, i32_w]
    rfl
   refine one_ (i := 11) (N := some 34) (tf 12 4) rfl rfl (one_of HT_.out (by kernel_rfl)) (by decide) (fun K hK => ?_)
   refine value_ (w1 := ?_) (v := ?_) (by rfl) rfl ?_ ?_
   rotate_left 2
   ·go_simp
    constructor
    ·rfl
    ·rfl
   refine hK.out _ _ ⟨(blk_alloc hHeld.1 _), (blk_alloc hHeld.2 _)⟩ (fun hHeld => ?_)
   clear hK K
   refine norm_ (a' := ?_) ?_ ?_
   rotate_left
   ·show Act.put _ (some 34) _ = _
    simp only [Act.put, List.setIfInBounds_toArray, List.set_cons_zero, List.set_cons_succ, i64_w, i32_w]
    rfl
   refine one_ (i := 12) (N := some 35) (tf 13 3) rfl rfl (one_of HT_.out (by kernel_rfl)) (by decide) (fun K hK => ?_)
   refine Kd.S_append_step k43 (w0 := w4) w.heap.size (by rfl) (.tmp 27) (.tmp 34) 22 43 (.agg #[.string ⟨#[]⟩, .slice none 0 0]) 40 rfl Try.underlying22 infoSt rfl (by decide) (by decide) (.slice Av Li.length cv) Li x [.string x.f0, .slice A4 x.f1.length c4] (fun k => k ≠ gh) (fun k => some k = (Value.slice A4 x.f1.length c4).ownBlock) rfl rfl ?aP ?aK ?aF ?aO (Below.refl _ _) ?aS ?aL ?_
   case aP => exact k43_mkM _ _ _ x (Kd.R_tight rfl (Kd.R_lower HR4.out HB2.out.size))
   case aK =>
    exact fun k hk => by
     have hge := Kd.R_base HR4.out k hk.symm
     have h3 := blk_lt HG2.out
     refine ⟨fun e => by omega, fun e => ?_⟩
     have := Kd.S_lt HS2.out k e.symm
     omega
   case aF =>
    exact fun k hk => by
     have h3 := blk_lt HG2.out
     have := HB34.out.size
     omega
   case aO =>
    exact Kd.S_mono HS4.out (fun k hk => ⟨hk.1, fun e => by have := Kd.R_base HR4.out k e.symm; have := hk.2.2.1; omega⟩)
   case aS => exact HB4.out.size
   case aL => have := HTL.out; omega
   intro v6 w6 ho6 hb6 hg6 _
   rw [← HEX.out] at ho6
   obtain ⟨A6, c6, e6⟩ := Kd.S_slice ho6
   subst e6
   have HS6 := Aside0.mk ho6
   have hng : some gh ≠ (Value.slice Av Li.length cv).ownBlock := fun e => HS2.out.choose_spec.1 gh e.symm rfl
   have hnb : some bs ≠ (Value.slice Av Li.length cv).ownBlock := fun e => by have := HVB.out bs e.symm; omega
   have HB6 : Aside0 (Below w.heap.size w w6) := ⟨HB4.out.grown hg6 HB4.out.size (fun k hk => Kd.S_base HS2.out k hk)⟩
   clear ho6 hb6
   refine hK.out _ _ ⟨(blkG HG4.out hg6 hng), (blkG HL4.out hg6 hnb)⟩ (fun hHeld => ?_)
   clear hK K
   refine norm_ (a' := ?_) ?_ ?_
   rotate_left
   ·show Act.put _ (some 35) _ = _
    simp only [Act.put, List.setIfInBounds_toArray, List.set_cons_zero, List.set_cons_succ, i64_w, i32_w]
    rfl
   refine pure_ (i := 13) (N := some 36) (v := ?_) (a' := ?_) (tf 14 2) rfl rfl (any_of HT_.out (by kernel_rfl)) (fun _ _ _ h => h) (Or.inl ⟨by rfl, ?_⟩) ?_ ?_
   rotate_left
   ·intro w'
    go_simp
    with_reducible rfl
   rotate_left
   ·simp only [Act.put, List.setIfInBounds_toArray, List.set_cons_zero, List.set_cons_succ, i64_w, i32_w]
    rfl
   refine pure_ (i := 14) (N := some 37) (v := ?_) (a' := ?_) (tf 15 1) rfl rfl (any_of HT_.out (by kernel_rfl)) (fun _ _ _ h => h) (Or.inl ⟨by rfl, ?_⟩) ?_ ?_
   rotate_left
   ·intro w'
    go_simp
    with_reducible rfl
   rotate_left
   ·simp only [Act.put, List.setIfInBounds_toArray, List.set_cons_zero, List.set_cons_succ, i64_w, i32_w]
    rfl
   refine last_ (i := 15) (N := none) (tf 16 0) rfl rfl (one_of HT_.out (by kernel_rfl)) (by decide) (fun K hK => ?_)
   obtain ⟨y0, y1, z0, z1⟩ := bk2 hHeld.1
   have HG6 := Aside0.mk hHeld.1
   refine skip_ (w1 := ?_) (by rfl) rfl ?_ ?_
   rotate_left
   ·go_simp
    rfl
   refine hK.out _ _ ?_
   clear hK K
   refine done_ (done_of HT_.out (by kernel_rfl)) ?_
   have HG9 : Aside0 ((w6.setCell ⟨gh, 0, none⟩ (.slice A6 Lj.length c6)).heap[gh]? = some (.cells #[.slice A6 Lj.length c6, .slice none 0 0] 116 (0, 0))) := ⟨blk_put HG6.out 0 _ rfl⟩
   have HS9 := Aside0.mk (Kd.S_far HS6.out (p := ⟨gh, 0, none⟩) (fun k hk => hk) (.slice A6 Lj.length c6))
   have HB9 := Aside0.mk (below_set (g := gh) (j := 0) (v := .slice A6 Lj.length c6) HB6.out HGE.out)
   clear HG6 HS6 HB6
   generalize w6.setCell ⟨gh, 0, none⟩ (.slice A6 Lj.length c6) = w9 at HG9 HS9 HB9 ⊢
   go_wp2
   go_roundw
   case rel => exact ⟨i + 1, _, by go_num, by omega, HB9, HG9, ⟨by rw [← HLJ.out]; exact HS9.out⟩⟩
   case measure => simp [intOf]; omega
  ·have hie : i = l0.length := by omega
   have hS := HS.out
   rw [hie, List.take_length] at hS
   have HS3 := Aside0.mk hS
   clear hS hie HS
   go_wp2
   go_ret
   exact ⟨gh, v, fun k => k ≠ gh ∧ w.heap.size ≤ k ∧ k < wr.heap.size, rfl, ⟨HG.out, HGE.out, S_toV (Kd.S_mono (Kd.S_bound HS3.out) (fun k hk => ⟨hk.1, hk.2.1, hk.2.2.1⟩)), Kd.S_nil _ _ _ _ _, fun k hk => ⟨hk.1, fun h_ => h_, hk.2.2⟩, fun k hk => hk.elim⟩, HB.out, fun k hk => hk.2.1⟩
end Go.Proofs.Ytonmlncejikbiaa.Q
-- (laid by the kit's lay-shelf and lay-plain at this seat's dump)
/- The library's contracts at this program. -/
namespace Go.Proofs
open Go.Shelf
def Try.lays210_ren : Go.Shelf.Ren := ⟨fun | 210 => 98 | 206 => 105 | n => n, fun | 9 => 9 | 4 => 4 | 3 => 3 | n => n, fun | n => n⟩
theorem Try.lays210 : Go.Proofs.Lays.n210 Try.prog Try.lays210_ren := {
 mixed := by kernel_rfl
 f206 := Try.func105.trans (congrArg some (by kernel_rfl))
 f210 := Try.func98.trans (congrArg some (by kernel_rfl))
 t3 := Try.underlying3
 a3 := Try.isAgg3
 z3 := Try.sizeOf3
 v3 := Try.zeroValue3
 t4 := Try.underlying4
 a4 := Try.isAgg4
 z4 := Try.sizeOf4
 v4 := Try.zeroValue4
 t9 := Try.underlying9
 a9 := Try.isAgg9
 z9 := Try.sizeOf9
 v9 := Try.zeroValue9 }
open Go.RowKit in
theorem Try.stringslite_CutPrefix (s p : ByteArray) (w : World) :
  Calls Try.prog 98 #[.string s, .string p] w fun e w' => e = .returned (.tuple #[.string ⟨(Lib.trimPrefix s.data.toList p.data.toList).toArray⟩, .bool (Lib.hasPrefix s.data.toList p.data.toList)]) ∧ w' = w := Any.stringslite_CutPrefix Try.lays210 s p w
def Try.lays103_ren : Go.Shelf.Ren := ⟨fun | 103 => 71 | 210 => 98 | 206 => 105 | n => n, fun | 9 => 9 | 4 => 4 | 24 => 30 | 3 => 3 | n => n, fun | n => n⟩
theorem Try.lays103 : Go.Proofs.Lays.n103 Try.prog Try.lays103_ren := {
 mixed := by kernel_rfl
 f103 := Try.func71.trans (congrArg some (by kernel_rfl))
 f206 := Try.func105.trans (congrArg some (by kernel_rfl))
 f210 := Try.func98.trans (congrArg some (by kernel_rfl))
 t3 := Try.underlying3
 a3 := Try.isAgg3
 z3 := Try.sizeOf3
 v3 := Try.zeroValue3
 t4 := Try.underlying4
 a4 := Try.isAgg4
 z4 := Try.sizeOf4
 v4 := Try.zeroValue4
 t9 := Try.underlying9
 a9 := Try.isAgg9
 z9 := Try.sizeOf9
 v9 := Try.zeroValue9
 t24 := Try.underlying30
 a24 := Try.isAgg30
 z24 := Try.sizeOf30
 v24 := Try.zeroValue30 }
open Go.RowKit in
theorem Try.strings_CutPrefix (s p : ByteArray) (w : World) :
  Calls Try.prog 71 #[.string s, .string p] w fun e w' => e = .returned (.tuple #[.string ⟨(Lib.trimPrefix s.data.toList p.data.toList).toArray⟩, .bool (Lib.hasPrefix s.data.toList p.data.toList)]) ∧ w' = w := Any.strings_CutPrefix Try.lays103 s p w
def Try.lays189_ren : Go.Shelf.Ren := ⟨fun | 189 => 84 | 125 => 102 | 257 => 101 | 128 => 121 | 129 => 122 | 294 => 112 | 295 => 113 | 296 => 114 | 297 => 115 | 298 => 116 | 299 => 117 | 216 => 118 | 300 => 119 | 301 => 120 | 328 => 124 | 329 => 125 | 330 => 126 | 331 => 127 | 332 => 128 | 215 => 129 | 343 => 130 | n => n, fun | 28 => 45 | 3 => 3 | 46 => 134 | 0 => 0 | 51 => 149 | 53 => 151 | 4 => 4 | 183 => 142 | 182 => 141 | 131 => 32 | 5 => 5 | 9 => 9 | 218 => 153 | 222 => 157 | 228 => 159 | 229 => 28 | n => n, fun | n => n⟩
theorem Try.lays189 : Go.Proofs.Lays.n189 Try.prog Try.lays189_ren := {
 mixed := by kernel_rfl
 f125 := Try.func102.trans (congrArg some (by kernel_rfl))
 f128 := Try.func121.trans (congrArg some (by kernel_rfl))
 f129 := Try.func122.trans (congrArg some (by kernel_rfl))
 f189 := Try.func84.trans (congrArg some (by kernel_rfl))
 f215 := Try.func129.trans (congrArg some (by kernel_rfl))
 f216 := Try.func118.trans (congrArg some (by kernel_rfl))
 f257 := Try.func101.trans (congrArg some (by kernel_rfl))
 f294 := Try.func112.trans (congrArg some (by kernel_rfl))
 f295 := Try.func113.trans (congrArg some (by kernel_rfl))
 f296 := Try.func114.trans (congrArg some (by kernel_rfl))
 f297 := Try.func115.trans (congrArg some (by kernel_rfl))
 f298 := Try.func116.trans (congrArg some (by kernel_rfl))
 f299 := Try.func117.trans (congrArg some (by kernel_rfl))
 f300 := Try.func119.trans (congrArg some (by kernel_rfl))
 f301 := Try.func120.trans (congrArg some (by kernel_rfl))
 f328 := Try.func124.trans (congrArg some (by kernel_rfl))
 f329 := Try.func125.trans (congrArg some (by kernel_rfl))
 f330 := Try.func126.trans (congrArg some (by kernel_rfl))
 f331 := Try.func127.trans (congrArg some (by kernel_rfl))
 f332 := Try.func128.trans (congrArg some (by kernel_rfl))
 f343 := Try.func130.trans (congrArg some (by kernel_rfl))
 t0 := Try.underlying0
 a0 := Try.isAgg0
 z0 := Try.sizeOf0
 v0 := Try.zeroValue0
 t3 := Try.underlying3
 a3 := Try.isAgg3
 z3 := Try.sizeOf3
 v3 := Try.zeroValue3
 t4 := Try.underlying4
 a4 := Try.isAgg4
 z4 := Try.sizeOf4
 v4 := Try.zeroValue4
 t5 := Try.underlying5
 a5 := Try.isAgg5
 z5 := Try.sizeOf5
 v5 := Try.zeroValue5
 t9 := Try.underlying9
 a9 := Try.isAgg9
 z9 := Try.sizeOf9
 v9 := Try.zeroValue9
 t28 := Try.underlying45
 a28 := Try.isAgg45
 z28 := Try.sizeOf45
 v28 := Try.zeroValue45
 t46 := Try.underlying134
 a46 := Try.isAgg134
 z46 := Try.sizeOf134
 v46 := Try.zeroValue134
 t51 := Try.underlying149
 a51 := Try.isAgg149
 z51 := Try.sizeOf149
 v51 := Try.zeroValue149
 t53 := Try.underlying151
 a53 := Try.isAgg151
 z53 := Try.sizeOf151
 v53 := Try.zeroValue151
 t131 := Try.underlying32
 a131 := Try.isAgg32
 z131 := Try.sizeOf32
 v131 := Try.zeroValue32
 t182 := Try.underlying141
 a182 := Try.isAgg141
 z182 := Try.sizeOf141
 v182 := Try.zeroValue141
 t183 := Try.underlying142
 a183 := Try.isAgg142
 z183 := Try.sizeOf142
 v183 := Try.zeroValue142
 t218 := Try.underlying153
 a218 := Try.isAgg153
 z218 := Try.sizeOf153
 v218 := Try.zeroValue153
 t222 := Try.underlying157
 a222 := Try.isAgg157
 z222 := Try.sizeOf157
 v222 := Try.zeroValue157
 t228 := Try.underlying159
 a228 := Try.isAgg159
 z228 := Try.sizeOf159
 v228 := Try.zeroValue159
 t229 := Try.underlying28
 a229 := Try.isAgg28
 z229 := Try.sizeOf28
 v229 := Try.zeroValue28 }
open Go.Sort Go.RowKit in
theorem Try.slices_Sort_int (blk off cap : Nat) (zs : List Int) (w : World) (hH : Holds (Value.int .i64) w blk off zs.toArray) (hblk : blk < w.heap.size) (hsz : zs.length < 4611686018427387904) :
  Calls Try.prog 84 #[.slice (some ⟨blk, off, none⟩) zs.length cap] w fun e w' =>
   e = .returned (.tuple #[]) ∧ ∃ n os, w' = grow (putRow (Value.int .i64) (Sort.ahead w n) blk off (zs.mergeSort fun x y => decide (x ≤ y)).toArray) os := Any.slices_Sort_int Try.lays189 blk off cap zs w hH hblk hsz
def Try.lays206_ren : Go.Shelf.Ren := ⟨fun | 206 => 105 | n => n, fun | 9 => 9 | 4 => 4 | 3 => 3 | n => n, fun | n => n⟩
theorem Try.lays206 : Go.Proofs.Lays.n206 Try.prog Try.lays206_ren := {
 mixed := by kernel_rfl
 f206 := Try.func105.trans (congrArg some (by kernel_rfl))
 t3 := Try.underlying3
 a3 := Try.isAgg3
 z3 := Try.sizeOf3
 v3 := Try.zeroValue3
 t4 := Try.underlying4
 a4 := Try.isAgg4
 z4 := Try.sizeOf4
 v4 := Try.zeroValue4
 t9 := Try.underlying9
 a9 := Try.isAgg9
 z9 := Try.sizeOf9
 v9 := Try.zeroValue9 }
open Go.RowKit Go.Lib in
theorem Try.stringslite_HasPrefix (s p : ByteArray) (w : World) :
  Calls Try.prog 105 #[.string s, .string p] w fun e w' => e = .returned (.bool (Lib.hasPrefix s.data.toList p.data.toList)) ∧ w' = w := Any.stringslite_HasPrefix Try.lays206 s p w
def Try.laysNm220_ren : Go.Shelf.Ren := ⟨fun | 20 => 85 | n => n, fun | 22 => 45 | 3 => 3 | 4 => 4 | 0 => 0 | n => n, fun | n => n⟩
theorem Try.laysNm220 : Go.Proofs.Lays2.n20 Try.prog Try.laysNm220_ren := {
 mixed := by kernel_rfl
 f20 := Try.func85.trans (congrArg some (by kernel_rfl))
 t0 := Try.underlying0
 a0 := Try.isAgg0
 z0 := Try.sizeOf0
 v0 := Try.zeroValue0
 t3 := Try.underlying3
 a3 := Try.isAgg3
 z3 := Try.sizeOf3
 v3 := Try.zeroValue3
 t4 := Try.underlying4
 a4 := Try.isAgg4
 z4 := Try.sizeOf4
 v4 := Try.zeroValue4
 t22 := Try.underlying45
 a22 := Try.isAgg45
 z22 := Try.sizeOf45
 v22 := Try.zeroValue45
 i3 := by kernel_rfl }
open Go.RowKit Go.Lib Go.Sort in
theorem Try.slices_Compact_int (blk off cap : Nat) (zs : List Int) (w : World) (hH : Holds (Value.int .i64) w blk off zs.toArray) (hsz : zs.length ≤ 9223372036854775807) (hcap : zs.length ≤ cap) :
  Calls Try.prog 85 #[.slice (some ⟨blk, off, none⟩) zs.length cap] w fun e w' => e = .returned (.slice (some ⟨blk, off, none⟩) (Lib.compact zs).length cap) ∧ ∃ q, w' = putRow (Value.int .i64) (Sort.ahead w q) blk off (Lib.compact zs ++ List.replicate (zs.length - (Lib.compact zs).length) 0).toArray := Any.slices_Compact_int Try.laysNm220 blk off cap zs w hH hsz hcap
open Go.RowKit Go.Lib Go.Sort in
theorem Try.slices_Compact_int_empty (a : Option Addr) (cap : Nat) (w : World) :
  Calls Try.prog 85 #[.slice a 0 cap] w fun e w' => e = .returned (.slice a 0 cap) ∧ w' = w := Any.slices_Compact_int_empty Try.laysNm220 a cap w
open Go.RowKit Go.Sort in
theorem Try.slices_Sort_int_none (p : Option Addr) (cap : Nat) (w : World) :
  Calls Try.prog 84 #[.slice p 0 cap] w fun e w' => e = .returned (.tuple #[]) ∧ w' = w := Any.slices_Sort_int_none Try.lays189 p cap w
end Go.Proofs
/- Rows of ints of one's own under the library's Sort, Compact: the shelf's contracts in the words of the printed walks. -/
namespace Go.Proofs.Ytonmlncejikbiaa.Q
open Go.RowKit Go.Proofs.YtonmlncejikbiaaW.PrintWords Go.Proofs.YtonmlncejikbiaaW.PrintLast Go.Proofs.YtonmlncejikbiaaW.PrintMore
set_option linter.unusedVariables false
set_option linter.unusedSimpArgs false
open Go.Sort Go.Shelf Go.Lib
section
variable {e base : Nat} {ok : Nat → Prop} {w : World} {v : Value} {xs : List Int}
theorem grow_none (W : World) : grow W #[] = W := by simp [grow]
theorem int_row (h : (Kd.int .i64).R e w base ok v xs) : (v = .slice none 0 0 ∧ xs = []) ∨ ∃ g c, v = .slice (some ⟨g, 0, none⟩) xs.length c ∧ xs.length ≤ c ∧ c ≤ maxLen ∧ Holds (Value.int .i64) w g 0 xs.toArray ∧ g < w.heap.size ∧ base ≤ g ∧
  ∀ (q : Nat) (os : Array Obj) (ts : List Int), ts.length = xs.length → (Kd.int .i64).R e (grow (putRow (Value.int .i64) (Sort.ahead w q) g 0 ts.toArray) os) base ok (.slice (some ⟨g, 0, none⟩) xs.length c) ts ∧ w.grownBy (grow (putRow (Value.int .i64) (Sort.ahead w q) g 0 ts.toArray) os) (some g) := by
 have ho := Kd.own_of_R h
 rcases ho.2 with ⟨h1, h2⟩ | ⟨g, cap, cur, rfl, hbase, hb, h1, h2, h3, h4⟩
 ·left
  have hl := (Kd.R_own h).choose_spec.1
  refine ⟨h1, ?_⟩
  rw [h1] at h
  obtain ⟨hn, _⟩ := Kd.R_reads' h
  exact List.eq_nil_of_length_eq_zero hn.symm
 ·right
  refine ⟨g, cap, rfl, h1, h2, holds_of_blockI hb (by simpa [encs] using h4), (Array.getElem?_eq_some_iff.1 hb).1, hbase, fun q os ts hl => ⟨?_, grownBy_sortedI _⟩⟩
  have hs := ownsRow_sortedI (n := q) (os := os) (ts := ts) (ss := xs) hl hbase hb h1 h2 h3
  exact Kd.R_of_own (by rw [hl]; exact hs) (fun k hk => h.1 k hk)
end
theorem grown_self (w : World) (row : Option Nat) : w.grownBy w row := ⟨rfl, rfl, rfl, Nat.le_refl _, fun _ _ _ => rfl⟩
theorem compact_le (xs : List Int) : (Lib.compact xs).length ≤ xs.length := by
 unfold Lib.compact Lib.compactUpTo
 rw [List.length_map]
 refine Nat.le_trans (List.length_filter_le _ _) ?_
 simp
theorem sort_R {base : Nat} {ok : Nat → Prop} {w : World} {v : Value} {xs : List Int} (h : (Kd.int .i64).R 3 w base ok v xs) (hsz : xs.length < 4611686018427387904) :
  Calls Try.prog 84 #[v] w fun e w' => e = .returned (.tuple #[]) ∧ (Kd.int .i64).R 3 w' base ok v (xs.mergeSort fun x y => decide (x ≤ y)) ∧ w.grownBy w' v.ownBlock := by
 rcases int_row h with ⟨rfl, rfl⟩ | ⟨g, c, rfl, h1, h2, h3, h4, h5, h6⟩
 ·refine (Try.slices_Sort_int_none none 0 w).mono ?_
  rintro e w' ⟨rfl, rfl⟩
  exact ⟨rfl, by rw [List.mergeSort_nil]; exact Kd.R_nil _ _ _ _ _, grown_self _ _⟩
 ·refine (Try.slices_Sort_int g 0 c xs w h3 h4 hsz).mono ?_
  rintro e w' ⟨rfl, n, os, rfl⟩
  obtain ⟨q1, q2⟩ := h6 n os (xs.mergeSort fun x y => decide (x ≤ y)) (List.length_mergeSort _)
  exact ⟨rfl, q1, q2⟩
theorem compact_R {base : Nat} {ok : Nat → Prop} {w : World} {v : Value} {xs : List Int} (h : (Kd.int .i64).R 3 w base ok v xs) :
  Calls Try.prog 85 #[v] w fun e w' => ∃ v', e = .returned v' ∧ (Kd.int .i64).R 3 w' base ok v' (Lib.compact xs) ∧ w.grownBy w' v.ownBlock ∧ v'.ownBlock = v.ownBlock := by
 rcases int_row h with ⟨rfl, rfl⟩ | ⟨g, c, rfl, h1, h2, h3, h4, h5, h6⟩
 ·refine (Try.slices_Compact_int_empty none 0 w).mono ?_
  rintro e w' ⟨rfl, rfl⟩
  exact ⟨_, rfl, Kd.R_nil _ _ _ _ _, grown_self _ _, rfl⟩
 ·refine (Try.slices_Compact_int g 0 c xs w h3 (by unfold maxLen at h2; omega) h1).mono ?_
  rintro e w' ⟨rfl, q, rfl⟩
  have hc := compact_le xs
  obtain ⟨q1, q2⟩ := h6 q #[] (Lib.compact xs ++ List.replicate (xs.length - (Lib.compact xs).length) 0) (by simp; omega)
  rw [grow_none] at q1 q2
  have q3 := Kd.R_take (m := (Lib.compact xs).length) q1 (by simp)
  rw [List.take_left'  rfl] at q3
  exact ⟨_, rfl, q3, q2, rfl⟩
end Go.Proofs.Ytonmlncejikbiaa.Q
/- A heap's Of and Near: by hand; the drawn region is written by wip/tool/genA.py. -/
namespace Go.Proofs.Ytonmlncejikbiaa.Q
open Go.RowKit Go.Proofs.YtonmlncejikbiaaW.PrintWords Go.Proofs.YtonmlncejikbiaaW.PrintLast Go.Proofs.YtonmlncejikbiaaW.PrintMore
set_option linter.unusedVariables false
set_option linter.unusedSimpArgs false
/-- What objects are, by structs. -/
structure OkL (S : List S43) (L : List (Int × List Int)) : Prop where
 len : L.length ≤ 131072
 all : ∀ x ∈ L, 0 ≤ x.1 ∧ x.1 < (S.length : Int) ∧ x.2.length = (rd_T43 S x.1).f1.length ∧ ∀ n ∈ x.2, -9223372036854775808 ≤ n ∧ n ≤ 9223372036854775807
theorem OkL.at {S : List S43} {L : List (Int × List Int)} (h : OkL S L) {i : Int} (h0 : 0 ≤ i) (h1 : i < (L.length : Int)) : rdO L i ∈ L := by
 unfold rdO
 rw [getD_at _ _ (by omega)]
 exact List.getElem_mem _
def ofO (S : List S43) (L : List (Int × List Int)) (obj : Int) : ByteArray := if isO L obj = true then (rd_T43 S (rdO L (obj - 1)).1).f0 else ⟨#[]⟩
def sortC (l : List Int) : List Int := Go.Lib.compact (l.mergeSort fun x y => decide (x ≤ y))
/-- What the links of an object hold, of what is there. -/
def nearTo (L : List (Int × List Int)) (F ks : List Int) : List Int := (ks.map fun k => rd F k).filter (isO L)
theorem nearTo_len (L : List (Int × List Int)) (F ks : List Int) : (nearTo L F ks).length ≤ ks.length := by
 unfold nearTo
 have := List.length_filter_le (isO L) (ks.map fun k => rd F k)
 rwa [List.length_map] at this
theorem infoIn : (Try.prog.info? 3).map (fun i => (i.zero, i.size, i.bytes)) = some (some (.int .i64 0), (Kd.int .i64).sz, 8) := by kernel_rfl
theorem take_nextI (l : List Int) (z : Int) {i : Nat} (hi : i < l.length) : l.take (i + 1) = l.take i ++ [l.getD i z] := by
 rw [List.take_succ_eq_append_getElem hi, getD_at l z hi]
def heap_Near.T5 : Bool × List (List Nat × List Nat) := (true, [([], []), ([0], [0]), ([1], [1]), ([2], [2]), ([], []), ([4], [4]), ([3, 5], [3, 5]), ([6], [6]), ([7], [7]), ([8], [8]), ([], [])])
def heap_Near.B5 : List Nat := [0, 1, 3, 7, 0, 16, 63, 127, 255, 511, 0]
theorem heap_Near.tab5 : rtab .any (opsOf Try.f37 5) = heap_Near.T5 := by kernel_rfl
theorem heap_Near.bits5 : waitsOk heap_Near.T5.2 heap_Near.B5 = true := by kernel_rfl
section
variable {base g : Nat} {w : World} {sv lv : Value} {S : List S43} {L : List (Int × List Int)} {sok lok : Nat → Prop}
set_option maxRecDepth 100000 in
set_option maxHeartbeats 2000000 in
theorem heap_Of.nil (obj : Int) (w : World) : Calls Try.prog 40 #[.pointer none, .int .i64 obj] w fun e w' => e = .returned (.string ⟨#[]⟩) ∧ Below w.heap.size w w' := by
 have HC := Aside0.mk (heap_is.nil obj w)
 go_enter Try.func40, Try.ntmps40
 go_wp2_with fail
 refine HC.out.mono ?_
 rintro e w1 ⟨rfl, hb⟩
 have HB := Aside0.mk hb; clear hb
 go_wp2
 go_ret
 exact ⟨rfl, HB.out⟩
set_option maxRecDepth 100000 in
set_option maxHeartbeats 4000000 in
theorem heap_Of.calls (obj : Int) (h : HP w base g sv lv S L sok lok) (hk : OkL S L) :
  Calls Try.prog 40 #[ptr g, .int .i64 obj] w fun e w' => e = .returned (.string (ofO S L obj)) ∧ Below w.heap.size w w' := by
 have hc := heap_is.calls obj h
 unfold ofO
 cases ho : isO L obj with
 | false =>
  rw [ho] at hc
  rw [if_neg (by decide)]
  have HC := Aside0.mk hc
  clear hc h ho
  go_enter Try.func40, Try.ntmps40
  go_wp2_with fail
  refine HC.out.mono ?_
  rintro e w1 ⟨rfl, hb⟩
  have HB := Aside0.mk hb; clear hb
  go_wp2
  go_ret
  exact ⟨rfl, HB.out⟩
 | true =>
  rw [ho] at hc
  rw [if_pos rfl]
  have ho' : 1 ≤ obj ∧ obj ≤ (L.length : Int) := of_decide_eq_true ho
  obtain ⟨n, rfl⟩ : ∃ n : Nat, obj = (n : Int) + 1 := ⟨(obj - 1).toNat, by omega⟩
  have e1 : (n : Int) + 1 - 1 = n := by omega
  rw [e1]
  obtain ⟨x, hx⟩ : ∃ x, x = rdO L (n : Int) := ⟨_, rfl⟩
  obtain ⟨o0, o1, _, _⟩ := hk.all _ (hk.at (i := (n : Int)) (by omega) (by omega))
  rw [← hx] at o0 o1 ⊢
  obtain ⟨m, hm⟩ : ∃ m : Nat, x.1 = m := ⟨x.1.toNat, by omega⟩
  rw [hm] at o1 ⊢
  obtain ⟨y, hy⟩ : ∃ y, y = rd_T43 S (m : Int) := ⟨_, rfl⟩
  rw [← hy]
  have H := Aside0.mk h; have HC := Aside0.mk hc; have HX := Aside0.mk hx; have HY := Aside0.mk hy; have HM := Aside0.mk hm
  clear h hc hx hy hm hk ho o0
  go_enter Try.func40, Try.ntmps40
  go_wp2_with fail
  refine HC.out.mono ?_
  rintro e w1 ⟨rfl, hb⟩
  have HB := Aside0.mk hb
  have h1 := H.out.below hb
  clear hb H HC
  obtain ⟨c0, c1, _, _⟩ := bk2 h1.blk
  obtain ⟨ad, cl, A1, c1', rfl, hcl, q1, q2, q3, q4⟩ := h1.elem (n : Int) (by omega) (by omega)
  obtain ⟨_, _, _, _, hmx⟩ := h1.list
  simp only [Int.toNat_natCast] at q1 q2
  rw [← HX.out] at q1
  rw [HM.out] at q1
  obtain ⟨As, cs, rfl, _, hC⟩ := h1.structs
  obtain ⟨sd, B1, d1, e2, s0, s1, _, _⟩ := at_T43 hC (m : Int) (by omega) (by omega)
  subst e2
  simp only [Int.toNat_natCast] at s0 s1
  rw [← HY.out] at s0
  have hw : IntKind.i64.wrap ((n : Int) + 1 - 1) = n := by rw [e1, IntKind.wrap_i64]; omega
  have hsm := Kd.C_max hC
  have hml : (m : Int) < (S.length : Int) := o1
  have hnl : (n : Int) < (L.length : Int) := by omega
  clear h1 q2 q3 q4 s1 hC HX HY HM
  go_wp2_with fail
  go_quiet (fail)
  go_wp2
  go_ret
  exact ⟨rfl, by first | exact HB.out | exact pw_below_drewN HB.out _⟩
set_option maxRecDepth 100000 in
set_option maxHeartbeats 2000000 in
theorem heap_Near.nil (obj : Int) (w : World) : Calls Try.prog 37 #[.pointer none, .int .i64 obj] w fun e w' => e = .returned (.slice none 0 0) ∧ Below w.heap.size w w' := by
 have HC := Aside0.mk (heap_is.nil obj w)
 go_enter Try.func37, Try.ntmps37
 go_wp2_with fail
 refine HC.out.mono ?_
 rintro e w1 ⟨rfl, hb⟩
 have HB := Aside0.mk hb; clear hb
 go_wp2
 go_ret
 exact ⟨rfl, HB.out⟩
set_option maxRecDepth 100000 in
set_option maxHeartbeats 2000000 in
theorem heap_Near.out (obj : Int) (h : HP w base g sv lv S L sok lok) (ho : isO L obj = false) : Calls Try.prog 37 #[ptr g, .int .i64 obj] w fun e w' => e = .returned (.slice none 0 0) ∧ Below w.heap.size w w' := by
 have hc := heap_is.calls obj h
 rw [ho] at hc
 have HC := Aside0.mk hc
 clear hc h ho
 go_enter Try.func37, Try.ntmps37
 go_wp2_with fail
 refine HC.out.mono ?_
 rintro e w1 ⟨rfl, hb⟩
 have HB := Aside0.mk hb; clear hb
 go_wp2
 go_ret
 exact ⟨rfl, HB.out⟩
set_option maxRecDepth 100000 in
set_option maxHeartbeats 8000000 in
theorem heap_Near.calls (k : Nat) (n : Nat) (x : Int × List Int) (y : S43) (ks : List Int) (h : HP w base g sv lv S L sok lok) (hk : OkL S L) (hn : n < L.length) (hx : x = rdO L (n : Int)) (hy : y = rd_T43 S x.1) (hks : kind_Links.f k y.f0 y.f1 = some ks) (hin : ∀ q ∈ ks, 0 ≤ q ∧ q < (y.f1.length : Int)) (hkl : ks.length ≤ 1000000) :
  Calls Try.prog 37 #[ptr g, .int .i64 ((n : Int) + 1)] w fun e w' => ∃ v0, e = .returned v0 ∧ (Kd.int .i64).R 3 w' w.heap.size (fun _ => True) v0 (sortC (nearTo L x.2 ks)) ∧ Below w.heap.size w w' := by
 have hc := heap_is.calls ((n : Int) + 1) h
 have ho : isO L ((n : Int) + 1) = true := decide_eq_true (by omega)
 rw [ho] at hc
 have e1 : (n : Int) + 1 - 1 = n := by omega
 obtain ⟨o0, o1, o2, o3⟩ := hk.all _ (hk.at (i := (n : Int)) (by omega) (by omega))
 rw [← hx] at o0 o1 o2 o3
 rw [← hy] at o2
 obtain ⟨m, hm⟩ : ∃ m : Nat, x.1 = m := ⟨x.1.toNat, by omega⟩
 rw [hm] at o1 hy
 obtain ⟨F, hF⟩ : ∃ F, F = x.2 := ⟨_, rfl⟩
 rw [← hF] at o2 o3 ⊢
 obtain ⟨ad, cl, A1, c1', rfl, hcl, p1, p2, _, p4⟩ := h.elem (n : Int) (by omega) (by omega)
 obtain ⟨_, _, _, _, hmx⟩ := h.list
 simp only [Int.toNat_natCast] at p1 p2
 rw [← hx, hm] at p1
 rw [← hx, ← hF] at p2 p4
 have HFC0 := Aside0.mk p4; have HP1 := Aside0.mk p1; have HP2 := Aside0.mk p2
 clear p1 p2 p4
 have H := Aside0.mk h; have HC := Aside0.mk hc; have HX := Aside0.mk hx; have HY := Aside0.mk hy; have HM := Aside0.mk hm; have HF := Aside0.mk hF; have HKS := Aside0.mk hks; have HIN := Aside0.mk hin; have HO2 := Aside0.mk o2
 have HKL := Aside0.mk hkl
 clear h hc hx hy hm hF hk ho o0 o2 o3 hks hin hkl
 go_enter Try.func37, Try.ntmps37
 go_wp2_with fail
 refine HC.out.mono ?_
 rintro e w1 ⟨rfl, hb⟩
 have HB := Aside0.mk hb
 have h1 := H.out.below hb
 have q4 := Kd.C_below HFC0.out hb
 clear HC
 obtain ⟨c0, c1, _, _⟩ := bk2 h1.blk
 have q1 := pw_cell_below hb HP1.out
 have q2 := pw_cell_below hb HP2.out
 obtain ⟨As, cs, rfl, _, hC⟩ := h1.structs
 obtain ⟨sd, B1, d1, e2, s0, s1, hld, hCd⟩ := at_T43 hC (m : Int) (by omega) (by omega)
 subst e2
 simp only [Int.toNat_natCast] at s0 s1
 rw [← HY.out] at s0 s1 hld hCd
 have hw : IntKind.i64.wrap ((n : Int) + 1 - 1) = n := by rw [e1, IntKind.wrap_i64]; omega
 have hsm := Kd.C_max hC
 have HFM := Aside0.mk (Kd.C_max q4)
 have HFC := Aside0.mk q4; have HDC := Aside0.mk hCd; have HLD := Aside0.mk hld
 have HBK := Aside0.mk h1.blk
 clear h1 q4 hC hCd hld hb HP1 HP2
 go_upto_region 5 with (fail)
 have HL2 : Aside0 ((w1.alloc (.cells #[.int .i64 m, .slice A1 F.length c1'] 119)).heap[w1.heap.size]? = some (.cells #[.int .i64 m, .slice A1 F.length c1'] 119 (0, 0))) := ⟨blk_new _ _⟩
 have HBA : Aside0 (Below w1.heap.size w1 (w1.alloc (.cells #[.int .i64 m, .slice A1 F.length c1'] 119))) := ⟨below_alloc (Below.refl _ _) _⟩
 generalize w1.alloc (.cells #[.int .i64 m, .slice A1 F.length c1'] 119) = wa at HL2 HBA ⊢
 have HBE : Aside0 (w.heap.size ≤ w1.heap.size) := ⟨HB.out.size⟩
 have HB2 := Aside0.mk (below_drew1 (below_step HB.out HBA.out))
 have HG2 := Aside0.mk (blk_drew (blk_below HBK.out HBA.out))
 have HL3 := Aside0.mk (blk_drew HL2.out)
 have HFC2 := Aside0.mk (Kd.C_drew (Kd.C_below HFC.out HBA.out))
 have HDC2 := Aside0.mk (Kd.C_drew (Kd.C_below HDC.out HBA.out))
 have HS0 := Aside0.mk (pw_cell_below (below_drew1 HBA.out) s0)
 have HS1 := Aside0.mk (pw_cell_below (below_drew1 HBA.out) s1)
 have hml : (m : Int) < (S.length : Int) := o1
 clear c0 c1 q1 q2 s0 s1 HB HBK HL2 HFC HDC HBA
 generalize w1.heap.size = bs at HL3 HBE ⊢
 refine start_ (n := 11) (S := fun w' => w'.heap[g]? = some (.cells #[.slice (some sd) S.length cs, .slice (some ad) L.length cl] 116 (0, 0)) ∧ w'.heap[bs]? = some (.cells #[.int .i64 m, .slice A1 F.length c1'] 119 (0, 0)) ∧ w'.cell? (sd.add (m * 2)) = some (.string y.f0) ∧ w'.cell? ⟨(sd.add (m * 2)).block, (sd.add (m * 2)).off + 1, none⟩ = some (.slice B1 y.f1.length d1)) (ds := []) (tf 0 11) (by kernel_rfl) rfl rfl ⟨HG2.out, HL3.out, HS0.out, HS1.out⟩ (fun hHeld => ?_)
 refine with_tabW heap_Near.tab5 heap_Near.bits5 (fun HT_ HW_ => ?_)
 generalize wa.drew = w3 at HB2 HG2 HFC2 HDC2 HL3 HS0 HS1 hHeld ⊢
 refine pure_ (i := 0) (N := some 21) (v := ?_) (a' := ?_) (tf 1 10) rfl rfl (any_of HT_.out (by kernel_rfl)) (fun _ _ _ h => h) (Or.inl ⟨by rfl, ?_⟩) ?_ ?_
 rotate_left
 ·intro w'
  go_simp
  with_reducible rfl
 rotate_left
 ·simp only [Act.put, List.setIfInBounds_toArray, List.set_cons_zero, List.set_cons_succ, i64_w, i32_w]
  rfl
 refine pure_ (i := 1) (N := some 22) (v := ?_) (a' := ?_) (tf 2 9) rfl rfl (any_of HT_.out (by kernel_rfl)) (fun _ _ _ h => h) (Or.inl ⟨by rfl, ?_⟩) ?_ ?_
 rotate_left
 ·intro w'
  go_simp
  with_reducible rfl
 rotate_left
 ·simp only [Act.put, List.setIfInBounds_toArray, List.set_cons_zero, List.set_cons_succ, i64_w, i32_w]
  rfl
 refine pure_ (i := 2) (N := some 23) (v := ?_) (a' := ?_) (tf 3 8) rfl rfl (any_of HT_.out (by kernel_rfl)) (fun _ _ _ h => h) (Or.inl ⟨by rfl, ?_⟩) ?_ ?_
 rotate_left
 ·intro w'
  go_simp
  with_reducible rfl
 rotate_left
 ·simp only [Act.put, List.setIfInBounds_toArray, List.set_cons_zero, List.set_cons_succ, i64_w, i32_w]
  rfl
 refine pure_ (i := 4) (N := some 25) (v := ?_) (a' := ?_) #[true, true, true, false, true, false, false, false, false, false, false] rfl rfl (any_of HT_.out (by kernel_rfl)) (fun _ _ _ h => h) (Or.inl ⟨by rfl, ?_⟩) ?_ ?_
 rotate_left
 ·intro w'
  go_simp
  with_reducible rfl
 rotate_left
 ·simp only [Act.put, List.setIfInBounds_toArray, List.set_cons_zero, List.set_cons_succ, i64_w, i32_w]
  rfl
 refine pure_ (i := 10) (N := some 31) (v := ?_) (a' := ?_) #[true, true, true, false, true, false, false, false, false, false, true] rfl rfl (any_of HT_.out (by kernel_rfl)) (fun _ _ _ h => h) (Or.inl ⟨by rfl, ?_⟩) ?_ ?_
 rotate_left
 ·intro w'
  go_simp
  with_reducible rfl
 rotate_left
 ·simp only [Act.put, List.setIfInBounds_toArray, List.set_cons_zero, List.set_cons_succ, i64_w, i32_w]
  rfl
 refine take_ (i := 3) (N := some 24) (v := ?_) (a' := ?_) #[true, true, true, true, true, false, false, false, false, false, true] rfl rfl (take_ofW HT_.out HW_.out (by kernel_rfl)) (fun _ _ _ h => h) (Or.inl ⟨by rfl, ?_⟩) hHeld ?_ ?_
 rotate_left
 ·rintro w' ⟨s0, s1, s2, s3⟩
  obtain ⟨c0, c1, _, _⟩ := bk2 s0
  obtain ⟨b0, b1, _, _⟩ := bk2 s1
  go_simp
  with_reducible rfl
 rotate_left
 ·simp only [Act.put, List.setIfInBounds_toArray, List.set_cons_zero, List.set_cons_succ, i64_w, i32_w]
  rfl
 refine take_ (i := 5) (N := some 26) (v := ?_) (a' := ?_) #[true, true, true, true, true, true, false, false, false, false, true] rfl rfl (take_ofW HT_.out HW_.out (by kernel_rfl)) (fun _ _ _ h => h) (Or.inl ⟨by rfl, ?_⟩) hHeld ?_ ?_
 rotate_left
 ·rintro w' ⟨s0, s1, s2, s3⟩
  obtain ⟨c0, c1, _, _⟩ := bk2 s0
  obtain ⟨b0, b1, _, _⟩ := bk2 s1
  go_simp
  with_reducible rfl
 rotate_left
 ·simp only [Act.put, List.setIfInBounds_toArray, List.set_cons_zero, List.set_cons_succ, i64_w, i32_w]
  rfl
 refine pure_ (i := 6) (N := some 27) (v := ?_) (a' := ?_) #[true, true, true, true, true, true, true, false, false, false, true] rfl rfl (any_of HT_.out (by kernel_rfl)) (fun _ _ _ h => h) (Or.inl ⟨by rfl, ?_⟩) ?_ ?_
 rotate_left
 ·intro w'
  go_simp
  with_reducible rfl
 rotate_left
 ·simp only [Act.put, List.setIfInBounds_toArray, List.set_cons_zero, List.set_cons_succ, i64_w, i32_w]
  rfl
 refine take_ (i := 7) (N := some 28) (v := ?_) (a' := ?_) #[true, true, true, true, true, true, true, true, false, false, true] rfl rfl (take_ofW HT_.out HW_.out (by kernel_rfl)) (fun _ _ _ h => h) (Or.inl ⟨by rfl, ?_⟩) hHeld ?_ ?_
 rotate_left
 ·rintro w' ⟨s0, s1, s2, s3⟩
  go_simp
  with_reducible rfl
 rotate_left
 ·simp only [Act.put, List.setIfInBounds_toArray, List.set_cons_zero, List.set_cons_succ, i64_w, i32_w]
  rfl
 refine one_ (i := 8) (N := some 29) #[true, true, true, true, true, true, true, true, true, false, true] rfl rfl (one_of HT_.out (by kernel_rfl)) (by decide) (fun K hK => ?_)
 refine goes_ Try.func26 (by kernel_rfl) rfl #[.agg #[.string y.f0, .slice B1 y.f1.length d1]] (by rfl) rfl rfl (by simp only [List.map_toArray, List.map_cons, List.map_nil]; rfl) ?_
 refine (kind_Links.calls k y.f0 B1 d1 y.f1 ks w3 HDC2.out HLD.out HKS.out).mono ?_
 rintro e w4 ⟨v9, rfl, hr9, hb9⟩
 refine ⟨_, rfl, ?_⟩
 obtain ⟨A9, c9, e9⟩ := Kd.R_slice hr9
 subst e9
 have HK9 : Aside0 ((Kd.int .i64).R 3 w4 w.heap.size (fun k => some k = (Value.slice A9 ks.length c9).ownBlock) (.slice A9 ks.length c9) ks) := ⟨Kd.R_tight rfl (Kd.R_lower hr9 HB2.out.size)⟩
 have HB9 := Aside0.mk (below_step HB2.out hb9)
 have HL9 := Aside0.mk (blkB hHeld.2.1 hb9)
 clear hr9
 refine hK.out _ _ ⟨(blkB hHeld.1 hb9), (blkB hHeld.2.1 hb9), (pw_cell_below hb9 hHeld.2.2.1), (pw_cell_below hb9 hHeld.2.2.2)⟩ (fun hHeld => ?_)
 clear hK K
 refine norm_ (a' := ?_) ?_ ?_
 rotate_left
 ·show Act.put _ (some 29) _ = _
  simp only [Act.put, List.setIfInBounds_toArray, List.set_cons_zero, List.set_cons_succ, i64_w, i32_w]
  rfl
 refine pure_ (i := 9) (N := some 30) (v := ?_) (a' := ?_) (tf 11 0) rfl rfl (any_of HT_.out (by kernel_rfl)) (fun _ _ _ h => h) (Or.inl ⟨by rfl, ?_⟩) ?_ ?_
 rotate_left
 ·intro w'
  go_simp
  with_reducible rfl
 rotate_left
 ·simp only [Act.put, List.setIfInBounds_toArray, List.set_cons_zero, List.set_cons_succ, i64_w, i32_w]
  rfl
 refine done_ (done_of HT_.out (by kernel_rfl)) ?_
 have hkm : ks.length ≤ 9223372036854775807 := by have := HKL.out; omega
 go_wp2_with fail
 go_loopw [6, 8, 31] (fun v6 _ v31 wr => ∃ (j : Nat), v31 = .int .i64 j ∧ j ≤ ks.length ∧ Aside0 (Below w.heap.size w wr) ∧ Aside0 (wr.heap[bs]? = some (.cells #[.int .i64 m, .slice A1 F.length c1'] 119 (0, 0))) ∧ Aside0 ((Kd.int .i64).R 3 wr w.heap.size (fun k => some k = (Value.slice A9 ks.length c9).ownBlock) (.slice A9 ks.length c9) ks) ∧ Aside0 ((Kd.int .i64).R 3 wr w.heap.size (fun k => some k ≠ (Value.slice A9 ks.length c9).ownBlock) v6 (nearTo L F (ks.take j)))) (fun _ _ v31 _ => ks.length - (intOf v31).toNat)
 case atStart => exact ⟨0, rfl, Nat.zero_le _, HB9, HL9, HK9, ⟨by rw [List.take_zero]; exact Kd.R_nil _ _ _ _ _⟩⟩
 case round =>
  clear HB9 HL9 HK9
  obtain ⟨j, rfl, hj, HBr, HLr, HKr, HOr⟩ := hrel
  by_cases hlt : j < ks.length
  ·obtain ⟨q, hq⟩ : ∃ q, q = rd ks (j : Int) := ⟨_, rfl⟩
   have hqm : q ∈ ks := by
    rw [hq]; unfold rd
    rw [Int.toNat_natCast, getD_at _ _ hlt]
    exact List.getElem_mem _
   obtain ⟨hq0, hq1⟩ := HIN.out q hqm
   obtain ⟨p, rfl⟩ : ∃ p : Nat, q = p := ⟨q.toNat, by omega⟩
   have hpF : p < F.length := by have := HO2.out; omega
   obtain ⟨ak, eak, hkc⟩ := Kd.at_int (Kd.R_reads' HKr.out).2.2 (j : Int) (by omega) (by omega)
   subst eak
   simp only [Int.toNat_natCast] at hkc
   rw [← hq] at hkc
   obtain ⟨b0, b1, _, _⟩ := bk2 HLr.out
   obtain ⟨af, eaf, hfc⟩ := Kd.at_int (Kd.C_below HFC0.out HBr.out) (p : Int) (by omega) (by omega)
   subst eaf
   simp only [Int.toNat_natCast] at hfc
   obtain ⟨z, hz⟩ : ∃ z, z = rd F (p : Int) := ⟨_, rfl⟩
   rw [← hz] at hfc
   have hnext : nearTo L F (ks.take (j + 1)) = nearTo L F (ks.take j) ++ (if isO L z = true then [z] else []) := by
    unfold nearTo
    rw [take_nextI ks 0 hlt, List.map_append, List.filter_append]
    congr 1
    have e3 : ks.getD j 0 = (p : Int) := by rw [hq]; unfold rd; rw [Int.toNat_natCast]
    rw [List.map_singleton, e3, ← hz]
    cases hh : isO L z <;> simp [hh]
   have HNX := Aside0.mk hnext
   have hcl2 := heap_is.calls z (H.out.below HBr.out)
   have hfm := HFM.out
   clear hnext hqm hq hz
   cases hoz : isO L z with
   | false =>
    rw [hoz] at hcl2
    have HC2 := Aside0.mk hcl2
    have hno : nearTo L F (ks.take (j + 1)) = nearTo L F (ks.take j) := by rw [HNX.out, hoz]; simp
    have HNO := Aside0.mk hno
    clear hcl2 hno hoz HNX
    go_wp2_with fail
    refine HC2.out.mono ?_
    rintro e wx ⟨rfl, hbx⟩
    have HBx := Aside0.mk (below_step HBr.out hbx)
    have HLx := Aside0.mk (blk_below HLr.out hbx)
    have HKx := Aside0.mk (Kd.R_below HKr.out hbx)
    have HOx := Aside0.mk (Kd.R_below HOr.out hbx)
    clear hbx b0 b1 hkc hfc HC2 HBr HLr HKr HOr
    go_wp2
    go_roundw
    case rel => exact ⟨j + 1, by go_num, by omega, HBx, HLx, HKx, ⟨by rw [HNO.out]; exact HOx.out⟩⟩
    case measure => simp [intOf]; omega
   | true =>
    rw [hoz] at hcl2
    have HC2 := Aside0.mk hcl2
    obtain ⟨Nj, hNj⟩ : ∃ Nj, Nj = nearTo L F (ks.take j) := ⟨_, rfl⟩
    have hyes : nearTo L F (ks.take (j + 1)) = Nj ++ [z] := by rw [HNX.out, hoz, hNj]; rfl
    have hnl : Nj.length ≤ 1000000 := by
     have h5 := nearTo_len L F (ks.take j)
     have h6 := HKL.out
     rw [← hNj, List.length_take] at h5
     omega
    rw [← hNj] at HOr
    have HYES := Aside0.mk hyes; have HNL := Aside0.mk hnl
    clear hcl2 hyes hoz HNX hNj hnl
    go_wp2_with fail
    refine HC2.out.mono ?_
    rintro e wx ⟨rfl, hbx⟩
    have HBx := Aside0.mk (below_step HBr.out hbx)
    have HLx := Aside0.mk (blk_below HLr.out hbx)
    have HKx := Aside0.mk (Kd.R_below HKr.out hbx)
    have HOx := Aside0.mk (Kd.R_below HOr.out hbx)
    have hfc2 := pw_cell_below hbx hfc
    clear hbx b0 b1 hkc hfc HC2 HBr HLr HKr HOr
    obtain ⟨b0, b1, _, _⟩ := bk2 HLx.out
    obtain ⟨Ao, co, eo⟩ := Kd.R_slice HOx.out
    subst eo
    go_wp2_with (at_builtin; refine Kd.R_append (Kd.int .i64) (w0 := w) w.heap.size rfl (.tmp 42) (.tmp 48) 45 3 (.int .i64 0) 8 rfl Try.underlying45 infoIn rfl (by decide) (by decide) _ Nj z [.int .i64 z] (fun k => some k ≠ (Value.slice (some ak) ks.length c9).ownBlock) (fun _ => False) rfl rfl ?aP (fun _ hk => hk.elim) ?aF HOx.out HBx.out HBx.out.size ?aL ?_)
    case aP => exact rfl
    case aF => intro k_ hk_ e_; have := Kd.R_lt HKx.out k_ e_.symm; omega
    case aL => have := HNL.out; omega
    intro v8 w8 hq8 hb8 hg8 _
    have hne9 : ∀ k, (Value.slice Ao Nj.length co).ownBlock = some k → some k ≠ (Value.slice (some ak) ks.length c9).ownBlock := fun k hk => HOx.out.1 k hk
    have HB8 := Aside0.mk hb8
    have HL8 := Aside0.mk (blkG HLx.out hg8 (Kd.R_ne HOx.out HLx.out (by decide)))
    have HK8 := Aside0.mk (Kd.R_grown HKx.out hg8 (fun k hk e => hne9 k e.symm hk))
    have HO8 : Aside0 ((Kd.int .i64).R 3 w8 w.heap.size (fun k => some k ≠ (Value.slice (some ak) ks.length c9).ownBlock) v8 (nearTo L F (ks.take (j + 1)))) := ⟨by rw [HYES.out]; exact hq8⟩
    clear hq8 hb8 hg8 HBx HLx HKx HOx b0 b1 hfc2
    go_wp2
    go_roundw
    case rel => exact ⟨j + 1, by go_num, by omega, HB8, HL8, HK8, HO8⟩
    case measure => simp [intOf]; omega
  ·have hje : j = ks.length := by omega
   have hO := HOr.out
   rw [hje, List.take_length] at hO
   have hnl := nearTo_len L F ks
   have HO1 := Aside0.mk hO; have HNL := Aside0.mk hnl
   clear hO hje hnl HOr
   go_wp2_with fail
   refine (sort_R HO1.out (by have := HNL.out; have := HKL.out; omega)).mono ?_
   rintro e w3 ⟨rfl, hR3, hg3⟩
   have HR3 := Aside0.mk hR3
   have HB3 := Aside0.mk (Below.grown HBr.out hg3 HBr.out.size (fun k hk => Kd.R_base HO1.out k hk))
   clear hR3 hg3
   go_wp2_with fail
   refine (compact_R HR3.out).mono ?_
   rintro e w4 ⟨v4, rfl, hR4, hg4, hob⟩
   have HR4 := Aside0.mk hR4
   have HB4 := Aside0.mk (Below.grown HB3.out hg4 HB3.out.size (fun k hk => Kd.R_base HR3.out k hk))
   clear hR4 hg4 hob
   go_wp2
   go_ret
   exact ⟨_, rfl, Kd.R_mono HR4.out (fun _ _ => trivial), HB4.out⟩
end
end Go.Proofs.Ytonmlncejikbiaa.Q
/- A heap's Reach: by hand, for whatever 'is' and 'Near' answer. -/
namespace Go.Proofs.Ytonmlncejikbiaa.Q
open Go.RowKit Go.Proofs.YtonmlncejikbiaaW.PrintWords Go.Proofs.YtonmlncejikbiaaW.PrintLast Go.Proofs.YtonmlncejikbiaaW.PrintMore
set_option linter.unusedVariables false
set_option linter.unusedSimpArgs false
open Go.Maps (Keyed)
def LIMR : Nat := 1099511627776
/-- The stack: what is reached. -/
def reachQ (isF : Int → Bool) (near : Int → Option (List Int)) : Nat → List Int → List Int → Option (List Int)
 | 0, _, _ => none
 | k + 1, todo, out =>
  if 0 < todo.length then
   (if isF (rd todo ((todo.length - 1 : Nat) : Int)) = true ∧ out.contains (rd todo ((todo.length - 1 : Nat) : Int)) = false then
    (near (rd todo ((todo.length - 1 : Nat) : Int))).bind fun ns =>
     if todo.length + ns.length < LIMR ∧ out.length < LIMR then reachQ isF near k (todo.take (todo.length - 1) ++ ns) (out ++ [rd todo ((todo.length - 1 : Nat) : Int)]) else none
   else reachQ isF near k (todo.take (todo.length - 1)) out)
  else some out
def ik (x : Int) : Lit := .int .i64 x
theorem ik_has (x : Int) (l : List Int) : decB (ik x ∈ l.map ik) = l.contains x := by
 have e : ik x ∈ l.map ik ↔ l.contains x = true := by
  rw [List.contains_iff_mem, List.mem_map]
  constructor
  ·rintro ⟨y, hy, e⟩
   unfold ik at e
   injection e with _ e
   rwa [e] at hy
  ·intro h; exact ⟨x, h, rfl⟩
 cases h : l.contains x
 ·exact decB_false (by rw [e, h]; simp)
 ·exact decB_true (by rw [e]; exact h)
theorem set_perm {w : World} {P : Program} {k e : TypeId} {b : Nat} {S S' : List Lit} (h : SetAt w P k e b S) (hm : ∀ x, x ∈ S' ↔ x ∈ S) (hl : S.length ≤ S'.length) : SetAt w P k e b S' := by
 obtain ⟨n, D, h1, h2, h3, h4⟩ := h
 exact ⟨n, D, h1, h2, Nat.le_trans h3 hl, fun x hx => by rw [h4 x hx]; congr 2; exact decB_iff (hm x).symm⟩
theorem zeroBo (w : World) : (zeroValue 4).run Try.prog w = .ok (.bool false) w := by kernel_rfl
theorem wf_small {x : Int} (h0 : 1 ≤ x) (h1 : x ≤ 1099511627776) : (Lit.int .i64 x).wf = true := by
 simp [Lit.wf, IntKind.min, IntKind.max, IntKind.signed, IntKind.bits]
 omega
set_option maxRecDepth 100000 in
set_option maxHeartbeats 8000000 in
theorem heap_Reach.any (pv : Value) (isF : Int → Bool) (near : Int → Option (List Int)) (k : Nat) (A0 : Option Addr) (c0 : Nat) (l0 out : List Int) (w : World)
  (his : ∀ w' x, Below w.heap.size w w' → Calls Try.prog 83 #[pv, .int .i64 x] w' fun e w2 => e = .returned (.bool (isF x)) ∧ Below w'.heap.size w' w2)
  (hne : ∀ w' x ns, Below w.heap.size w w' → isF x = true → near x = some ns → Calls Try.prog 37 #[pv, .int .i64 x] w' fun e w2 => ∃ v0, e = .returned v0 ∧ (Kd.int .i64).R 3 w2 w'.heap.size (fun _ => True) v0 ns ∧ Below w'.heap.size w' w2)
  (hsm : ∀ x, isF x = true → 1 ≤ x ∧ x ≤ 1099511627776)
  (hr0 : (Kd.int .i64).C w A0 l0.length l0) (hc0 : l0.length ≤ c0) (hl : l0.length ≤ 1000000) (h : reachQ isF near k l0 [] = some out) (hol : out.length < LIMR) :
  Calls Try.prog 36 #[pv, .slice A0 l0.length c0] w fun e w' => ∃ v0, e = .returned v0 ∧ (Kd.int .i64).R 3 w' w.heap.size (fun _ => True) v0 (out.mergeSort fun x y => decide (x ≤ y)) ∧ Below w.heap.size w w' := by
 have HIS := Aside0.mk his; have HNE := Aside0.mk hne; have HSM := Aside0.mk hsm; have HR0 := Aside0.mk hr0; have HC0 := Aside0.mk hc0; have HLL := Aside0.mk hl; have HQ := Aside0.mk h; have HOL := Aside0.mk hol
 clear his hne hsm hr0 hc0 hl h hol
 have hmm := @run_makeMap Try.prog
 go_enter Try.func36, Try.ntmps36
 go_wp2_with fail
 have HB1 : Aside0 (Below w.heap.size w (w.alloc (.map #[] 0))) := ⟨below_alloc (Below.refl _ _) _⟩
 have HS1 : Aside0 (SetAt (w.alloc (.map #[] 0)) Try.prog 3 4 w.heap.size (([] : List Int).map ik)) := ⟨SetAt.made w _ _ _⟩
 generalize w.alloc (.map #[] 0) = w1 at HB1 HS1 ⊢
 refine (slices_Clone_int_int.calls A0 c0 l0 l0 w1 (Kd.C_below HR0.out HB1.out) HC0.out (if_pos HLL.out)).mono ?_
 rintro e w2 ⟨vt, rfl, hrt, hb2⟩
 have HB2 := Aside0.mk (below_step HB1.out hb2)
 have HS2 := Aside0.mk (SetAt.below HS1.out hb2)
 have HT2 : Aside0 ((Kd.int .i64).R 3 w2 w.heap.size (fun k => True ∧ some k ≠ (Value.slice none 0 0).ownBlock) vt l0) := ⟨Kd.R_mono (Kd.R_lower hrt HB1.out.size) (fun k _ => ⟨trivial, by simp [Value.ownBlock]⟩)⟩
 clear hrt hb2 HB1 HS1 hmm
 go_wp2_with fail
 go_loopg [6, 7, 8] k (fun kq v6 v7 _ wr => ∃ todo ou : List Int, Aside0 (reachQ isF near kq todo ou = some out) ∧ Aside0 ((Kd.int .i64).R 3 wr w.heap.size (fun k => True ∧ some k ≠ v7.ownBlock) v6 todo) ∧ Aside0 ((Kd.int .i64).R 3 wr w.heap.size (fun _ => True) v7 ou) ∧ Aside0 (SetAt wr Try.prog 3 4 w.heap.size (ou.map ik)) ∧ Aside0 (Below w.heap.size w wr))
 case atStart => exact ⟨l0, [], HQ, HT2, ⟨Kd.R_nil _ _ _ _ _⟩, HS2, HB2⟩
 case round =>
  clear HQ HT2 HS2 HB2
  obtain ⟨todo, ou, HQ, HT, HO, HS, HB⟩ := hrel
  cases gk with
  | zero => exact absurd HQ.out (by simp [reachQ])
  | succ kq =>
  obtain ⟨A, c, rfl, hc, hC⟩ := Kd.R_reads HT.out
  have htm := Kd.C_max hC
  by_cases hp : 0 < todo.length
  ·have hq := HQ.out
   unfold reachQ at hq
   rw [if_pos hp] at hq
   obtain ⟨m, hm⟩ : ∃ m, todo.length = m + 1 := ⟨todo.length - 1, by omega⟩
   have em : todo.length - 1 = m := by omega
   rw [em] at hq
   obtain ⟨x, hx⟩ : ∃ x, x = rd todo (m : Int) := ⟨_, rfl⟩
   obtain ⟨tk, htk⟩ : ∃ tk, tk = todo.take m := ⟨_, rfl⟩
   rw [← hx, ← htk] at hq
   obtain ⟨ad, ea, hcell⟩ := Kd.at_int hC (m : Int) (by omega) (by omega)
   subst ea
   simp only [Int.toNat_natCast] at hcell
   rw [← hx] at hcell
   obtain ⟨hcut, hR3⟩ := cut_stack (P := Try.prog) (t := 45) (e := 3) Try.underlying45 (by kernel_rfl) HT.out rfl hc hp
   rw [em, ← htk] at hR3
   rw [em] at hcut
   have hwr : IntKind.i64.wrap ((todo.length : Int) - 1) = (m : Int) := by rw [IntKind.wrap_i64]; omega
   have hcut2 : ∀ W : World, (Instr.slice 45 (.slice (some ad) todo.length c) none (some (.int .i64 (m : Int))) none).run Try.prog W = .ok (.slice (some ad) m c) W := fun W => by
    have := hcut W
    rwa [show ((todo.length : Int) - 1) = (m : Int) by omega] at this
   have htkl : tk.length = m := by rw [htk, List.length_take]; omega
   have HTK := Aside0.mk htkl
   have HR3 := Aside0.mk hR3
   have hml : (m : Int) < (todo.length : Int) := by omega
   have HM := Aside0.mk hm
   have HQ1 := Aside0.mk hq
   have hd0 : decide (0 < (todo.length : Int)) = true := decide_eq_true (by omega)
   clear hC hq hx htk hR3 hcut hc HT HQ htkl em hm hp
   go_wp2_with fail
   refine (HIS.out wr x HB.out).mono ?_
   rintro e w3 ⟨rfl, hb3⟩
   have HB3 := Aside0.mk (below_step HB.out hb3)
   have HT3 := Aside0.mk (Kd.R_below HR3.out hb3)
   have HO3 := Aside0.mk (Kd.R_below HO.out hb3)
   have HS3 := Aside0.mk (SetAt.below HS.out hb3)
   clear hb3 HB HR3 HO HS hcell hcut2
   cases hix : isF x with
   | false =>
    have hq1 := HQ1.out
    rw [if_neg (fun hh => by rw [hix] at hh; exact absurd hh.1 (by decide))] at hq1
    have HQ2 := Aside0.mk hq1
    clear hq1 HQ1 hix
    go_wp2
    go_roundg kq
    case rel => exact ⟨tk, ou, HQ2, ⟨by have h := HT3.out; exact h⟩, HO3, HS3, HB3⟩
    case measure => omega
   | true =>
    obtain ⟨hx1, hx2⟩ := HSM.out x hix
    have hwf := wf_small hx1 hx2
    have hlk : (Instr.lookup 121 (.map (some w.heap.size)) (.int .i64 x) false).run Try.prog w3 = .ok (.bool (ou.contains x)) w3 := by
     rw [← ik_has]
     exact SetAt.lookup HS3.out (Go.Maps.int_keyed Try.underlying3) Try.underlying121 Try.underlying4 (zeroBo w3) (Go.Maps.keyOf_int_mk Try.underlying3 hwf) trivial
    cases hcx : ou.contains x with
    | true =>
     rw [hcx] at hlk
     have hq1 := HQ1.out
     rw [if_neg (fun hh => by rw [hcx] at hh; exact absurd hh.2 (by decide))] at hq1
     have HQ2 := Aside0.mk hq1
     clear hq1 HQ1 hix hcx hwf hx1 hx2
     go_wp2
     go_roundg kq
     case rel => exact ⟨tk, ou, HQ2, ⟨by have h := HT3.out; exact h⟩, HO3, HS3, HB3⟩
     case measure => omega
    | false =>
     rw [hcx] at hlk
     have hq1 := HQ1.out
     rw [if_pos ⟨hix, hcx⟩] at hq1
     obtain ⟨ns, hns, hq1⟩ := Option.bind_eq_some_iff.mp hq1
     by_cases hlim : todo.length + ns.length < LIMR ∧ ou.length < LIMR
     case neg => rw [if_neg hlim] at hq1; cases hq1
     rw [if_pos hlim] at hq1
     have HQ2 := Aside0.mk hq1; have HNS := Aside0.mk hns; have HLIM := Aside0.mk hlim; have HIX := Aside0.mk hix
     have hkey : keyOf Try.prog 3 (.int .i64 x) = some (ik x) := Go.Maps.keyOf_int_mk Try.underlying3 hwf
     have HKEY := Aside0.mk hkey
     clear hq1 HQ1 hix hcx hwf hx1 hx2 hns hlim hkey
     go_wp2_with (at_mapUpdate; refine SetAt.update_op HS3.out rfl (.tmp 35) (.tmp 36) (.const (.bool true)) rfl (Go.Maps.int_keyed Try.underlying3) Try.underlying121 Try.underlying4 rfl ?hn (.int .i64 x) (ik x) rfl rfl HKEY.out trivial ?_)
     case hn => rw [List.length_map]; have := HLIM.out.2; unfold LIMR at this; unfold maxLen; omega
     intro w4 hs4 hg4
     have HB4 : Aside0 (Below w.heap.size w w4) := ⟨HB3.out.grown hg4 HB3.out.size (fun j hj => by injection hj with hj; omega)⟩
     have hneT : ∀ {α : Type} {d : Kd α} {okx : Nat → Prop} {vx : Value} {xs : List α}, d.R 3 w3 w.heap.size okx vx xs → ∀ k, vx.ownBlock = some k → k ≠ w.heap.size := fun hR k hk e => (SetAt.ne_own HS3.out (Kd.Q_of_R hR)) (by rw [hk, e])
     have HT4 : Aside0 ((Kd.int .i64).R 3 w4 w.heap.size (fun k => True ∧ some k ≠ u7.ownBlock) (.slice (some ad) m c) tk) := ⟨Kd.R_mono (Kd.R_grown (Kd.R_tight2 rfl HT3.out) hg4 (fun k hk e => hneT HT3.out k hk.1.symm (by injection e))) (fun k hk => hk.2)⟩
     have HO4 : Aside0 ((Kd.int .i64).R 3 w4 w.heap.size (fun _ => True) u7 ou) := ⟨Kd.R_mono (Kd.R_grown (Kd.R_tight rfl HO3.out) hg4 (fun k hk e => hneT HO3.out k hk.symm (by injection e))) (fun _ _ => trivial)⟩
     have HS4 : Aside0 (SetAt w4 Try.prog 3 4 w.heap.size ((ik x) :: ou.map ik)) := ⟨hs4⟩
     clear hs4 hg4 hlk hneT HS3 HT3 HO3 HB3 HKEY
     obtain ⟨Ao, co, eo⟩ := Kd.R_slice HO4.out
     subst eo
     go_wp2_with (at_builtin; refine Kd.R_append (Kd.int .i64) (w0 := w) w.heap.size rfl (.tmp 37) (.tmp 39) 45 3 (.int .i64 0) 8 rfl Try.underlying45 infoIn rfl (by decide) (by decide) _ ou x [.int .i64 x] (fun _ => True) (fun _ => False) rfl rfl ?aP (fun _ hk => hk.elim) ?aF HO4.out HB4.out HB4.out.size ?aL ?_)
     case aP => exact rfl
     case aF => exact fun _ _ => trivial
     case aL => have := HLIM.out.2; unfold LIMR at this; omega
     intro v5 w5 hq5 hb5 hg5 hat5
     have HB5 := Aside0.mk hb5
     have HO5 := Aside0.mk hq5
     have HT5 := Aside0.mk (Kd.R_after HT4.out hg5 hat5)
     have HS5 := Aside0.mk (SetAt.kept HS4.out hg5 (SetAt.ne_own HS4.out (Kd.Q_of_R HO4.out)))
     clear hq5 hb5 hg5 hat5 HT4 HO4 HS4 HB4
     go_wp2_with fail
     refine (HNE.out w5 x ns HB5.out HIX.out HNS.out).mono ?_
     rintro e w6 ⟨vn, rfl, hrn, hb6⟩
     have HB6 := Aside0.mk (below_step HB5.out hb6)
     have HT6 := Aside0.mk (Kd.R_below HT5.out hb6)
     have HO6 := Aside0.mk (Kd.R_below HO5.out hb6)
     have HS6 := Aside0.mk (SetAt.below HS5.out hb6)
     obtain ⟨An, cn, rfl, hcn, hCn⟩ := Kd.R_reads hrn
     have HCN := Aside0.mk hCn
     clear hrn hb6 hCn HT5 HO5 HS5 HB5
     go_wp2_with (at_builtin; refine Kd.R_append_row (Value.int .i64) (0 : Int) (w0 := w) w.heap.size rfl (.tmp 41) (.tmp 44) 45 3 (.int .i64 0) 8 rfl Try.underlying45 infoIn rfl (by decide) _ tk ns An ns.length cn (fun k => True ∧ some k ≠ v5.ownBlock) rfl rfl ?bF HT6.out HCN.out HB6.out HB6.out.size ?bL ?_)
     case bF => exact fun k hk => ⟨trivial, fun e => by have := Kd.R_lt HO6.out k e.symm; omega⟩
     case bL => have := HLIM.out.1; have := HTK.out; have := HM.out; unfold LIMR at *; omega
     intro v7 w7 hq7 hb7 hg7 hat7
     have HB7 := Aside0.mk hb7
     have HT7 : Aside0 ((Kd.int .i64).R 3 w7 w.heap.size (fun k => True ∧ some k ≠ v5.ownBlock) v7 (tk ++ ns)) := ⟨Kd.R_mono hq7 (fun k hk => ⟨trivial, by simpa using hk⟩)⟩
     have HO7 : Aside0 ((Kd.int .i64).R 3 w7 w.heap.size (fun _ => True) v5 (ou ++ [x])) := ⟨Kd.R_mono (Kd.R_grown (Kd.R_tight rfl HO6.out) hg7 (fun k hk e => (HT6.out.1 k e.symm).2 hk)) (fun _ _ => trivial)⟩
     have HS7a := Aside0.mk (SetAt.kept HS6.out hg7 (SetAt.ne_own HS6.out (Kd.Q_of_R HT6.out)))
     clear hq7 hb7 hg7 hat7 HT6 HO6 HS6 HB6 HCN
     have HS7 : Aside0 (SetAt w7 Try.prog 3 4 w.heap.size ((ou ++ [x]).map ik)) := ⟨set_perm HS7a.out (by simp [or_comm]) (by simp)⟩
     go_wp2
     go_roundg kq
     case rel => exact ⟨tk ++ ns, ou ++ [x], HQ2, HT7, HO7, HS7, HB7⟩
     case measure => omega
  ·have hq := HQ.out
   unfold reachQ at hq
   rw [if_neg hp] at hq
   obtain rfl := Option.some.inj hq
   have h0 : todo.length = 0 := by omega
   clear hq HQ hC hc HT HS
   rw [h0]
   clear h0 hp htm
   go_wp2_with fail
   refine (sort_R HO.out (by have := HOL.out; unfold LIMR at this; omega)).mono ?_
   rintro e w3 ⟨rfl, hR3, hg3⟩
   have HR3 := Aside0.mk hR3
   have HB3 := Aside0.mk (Below.grown HB.out hg3 HB.out.size (fun k hk => Kd.R_base HO.out k hk))
   clear hR3 hg3
   go_wp2
   go_ret
   exact ⟨_, rfl, HR3.out, HB3.out⟩
end Go.Proofs.Ytonmlncejikbiaa.Q
/- The anchor of chapter 6: by hand. -/
namespace Go.Proofs.Ytonmlncejikbiaa.Q
open Go.RowKit Go.Proofs.YtonmlncejikbiaaW.PrintWords Go.Proofs.YtonmlncejikbiaaW.PrintLast Go.Proofs.YtonmlncejikbiaaW.PrintMore
set_option linter.unusedVariables false
set_option linter.unusedSimpArgs false
def sT : S43 := ⟨⟨#[84]⟩, [⟨⟨#[110]⟩, ⟨#[105, 110, 116]⟩⟩, ⟨⟨#[116]⟩, ⟨#[42, 84]⟩⟩]⟩
theorem aw_check : kind_Check.f 40 [sT] = some (0, 0) := by kernel_rfl
theorem aw_bad : kind_Check.f 40 [⟨⟨#[]⟩, []⟩] = some (0, 1) := by kernel_rfl
theorem aw_links : kind_Links.f 40 sT.f0 sT.f1 = some [1] := by kernel_rfl
theorem aw_sF : ∀ x ∈ [sT], x.f1.length ≤ 1000000 := fun x hx => by rw [List.mem_singleton.mp hx]; decide
def L1a : List (Int × List Int) := [(0, [0, 0])]
def L2a : List (Int × List Int) := [(0, [0, 0]), (0, [0, 0])]
def L3a : List (Int × List Int) := [(0, [0, 2]), (0, [0, 0])]
theorem aw_ok : OkL [sT] L3a := ⟨by decide, fun x hx => by
 have h : x = (0, [0, 2]) ∨ x = (0, [0, 0]) := by simpa [L3a] using hx
 rcases h with rfl | rfl
 ·exact ⟨by decide, by decide, by kernel_rfl, fun n hn => by simp at hn; omega⟩
 ·exact ⟨by decide, by decide, by kernel_rfl, fun n hn => by simp at hn; omega⟩⟩
theorem sort_one (x : Int) : sortC [x] = [x] := by unfold sortC; rw [List.mergeSort_singleton]; rfl
theorem sort_nil : sortC [] = [] := by unfold sortC; rw [List.mergeSort_nil]; rfl
def nearA (x : Int) : Option (List Int) := if x = 1 then some [2] else if x = 2 then some [] else none
theorem aw_reach : reachQ (isO L3a) nearA 20 [1] [] = some [1, 2] := by kernel_rfl
theorem aw_sorted : [1, 2].mergeSort (fun x y : Int => decide (x ≤ y)) = [1, 2] := List.mergeSort_of_pairwise (by decide)
section
variable {base g : Nat} {w : World} {sv lv : Value} {sok lok : Nat → Prop}
theorem aw_near1 (h : HP w base g sv lv [sT] L3a sok lok) : Calls Try.prog 37 #[ptr g, .int .i64 1] w fun e w' => ∃ v0, e = .returned v0 ∧ (Kd.int .i64).R 3 w' w.heap.size (fun _ => True) v0 [2] ∧ Below w.heap.size w w' := by
 have h1 := heap_Near.calls 40 0 (0, [0, 2]) sT [1] h aw_ok (by decide) rfl rfl aw_links (fun q hq => by rw [List.mem_singleton.mp hq]; decide) (by decide)
 have e : sortC (nearTo L3a [0, 2] [1]) = [2] := by
  have : nearTo L3a [0, 2] [1] = [2] := by kernel_rfl
  rw [this, sort_one]
 rw [show ((0, [0, 2]) : Int × List Int).2 = [0, 2] from rfl, e] at h1
 exact h1
theorem aw_near2 (h : HP w base g sv lv [sT] L3a sok lok) : Calls Try.prog 37 #[ptr g, .int .i64 2] w fun e w' => ∃ v0, e = .returned v0 ∧ (Kd.int .i64).R 3 w' w.heap.size (fun _ => True) v0 [] ∧ Below w.heap.size w w' := by
 have h1 := heap_Near.calls 40 1 (0, [0, 0]) sT [1] h aw_ok (by decide) rfl rfl aw_links (fun q hq => by rw [List.mem_singleton.mp hq]; decide) (by decide)
 have e : sortC (nearTo L3a [0, 0] [1]) = [] := by
  have : nearTo L3a [0, 0] [1] = [] := by kernel_rfl
  rw [this, sort_nil]
 rw [show ((0, [0, 0]) : Int × List Int).2 = [0, 0] from rfl, e] at h1
 exact h1
theorem aw_make1 (h : HP w base g sv lv [sT] [] sok lok) : Calls Try.prog 34 #[ptr g, .string ⟨#[84]⟩] w fun e w' => e = .returned (.tuple #[.int .i64 1, .int .i64 0]) ∧
   ∃ lv' lok', HP w' base g sv lv' [sT] L1a sok lok' ∧ (∀ k, lok' k → lok k ∨ w.heap.size ≤ k) ∧ Kept w w' (Turns g lok) ∧ Below base w w' := by
 have h1 := heap_Make.calls ⟨#[84]⟩ h (by decide) aw_sF
 rw [show mkN [sT] [] ⟨#[84]⟩ = 1 by kernel_rfl, show mkE [sT] [] ⟨#[84]⟩ = 0 by kernel_rfl, show mkL [sT] [] ⟨#[84]⟩ = L1a by kernel_rfl] at h1
 exact h1
theorem aw_make2 (h : HP w base g sv lv [sT] L1a sok lok) : Calls Try.prog 34 #[ptr g, .string ⟨#[84]⟩] w fun e w' => e = .returned (.tuple #[.int .i64 2, .int .i64 0]) ∧
   ∃ lv' lok', HP w' base g sv lv' [sT] L2a sok lok' ∧ (∀ k, lok' k → lok k ∨ w.heap.size ≤ k) ∧ Kept w w' (Turns g lok) ∧ Below base w w' := by
 have h1 := heap_Make.calls ⟨#[84]⟩ h (by decide) aw_sF
 rw [show mkN [sT] L1a ⟨#[84]⟩ = 2 by kernel_rfl, show mkE [sT] L1a ⟨#[84]⟩ = 0 by kernel_rfl, show mkL [sT] L1a ⟨#[84]⟩ = L2a by kernel_rfl] at h1
 exact h1
theorem aw_set (h : HP w base g sv lv [sT] L2a sok lok) : Calls Try.prog 35 #[ptr g, .int .i64 1, .int .i64 1, .int .i64 2] w fun e w' => e = .returned (.int .i64 0) ∧ HP w' base g sv lv [sT] L3a sok lok ∧ Kept w w' lok ∧ Below base w w' := by
 have h1 := heap_Set.calls 1 1 2 h
 rw [show chkE L2a 1 1 = 0 by kernel_rfl, show setO L2a 1 1 2 = L3a by kernel_rfl] at h1
 exact h1
theorem aw_get (o f a b : Int) (h : HP w base g sv lv [sT] L3a sok lok) (ea : getO L3a o f = a) (eb : chkE L3a o f = b) : Calls Try.prog 39 #[ptr g, .int .i64 o, .int .i64 f] w fun e w' => e = .returned (.tuple #[.int .i64 a, .int .i64 b]) ∧ Below w.heap.size w w' := by
 have h1 := heap_Get.calls o f h
 rw [ea, eb] at h1
 exact h1
theorem aw_of (h : HP w base g sv lv [sT] L3a sok lok) : Calls Try.prog 40 #[ptr g, .int .i64 2] w fun e w' => e = .returned (.string ⟨#[84]⟩) ∧ Below w.heap.size w w' := by
 have h1 := heap_Of.calls 2 h aw_ok
 rw [show ofO [sT] L3a 2 = ⟨#[84]⟩ by kernel_rfl] at h1
 exact h1
theorem aw_len (h : HP w base g sv lv [sT] L3a sok lok) : Calls Try.prog 41 #[ptr g] w fun e w' => e = .returned (.int .i64 2) ∧ Below w.heap.size w w' := heap_Len.calls h
theorem aw_rea (A0 : Option Addr) (c0 : Nat) (h : HP w base g sv lv [sT] L3a sok lok) (hr0 : (Kd.int .i64).C w A0 1 [1]) (hc0 : 1 ≤ c0) : Calls Try.prog 36 #[ptr g, .slice A0 1 c0] w fun e w' => ∃ v0, e = .returned v0 ∧ (Kd.int .i64).R 3 w' w.heap.size (fun _ => True) v0 [1, 2] ∧ Below w.heap.size w w' := by
 have h1 := heap_Reach.any (ptr g) (isO L3a) nearA 20 A0 c0 [1] [1, 2] w (fun w' x hb => heap_is.calls x (h.below hb)) (fun w' x ns hb hx hn => by
  unfold nearA at hn
  split at hn
  ·rename_i e; subst e; obtain rfl := Option.some.inj hn; exact aw_near1 (h.below hb)
  ·split at hn
   ·rename_i e; subst e; obtain rfl := Option.some.inj hn; exact aw_near2 (h.below hb)
   ·cases hn) (fun x hx => by
  have := of_decide_eq_true hx
  have e : L3a.length = 2 := rfl
  rw [e] at this
  omega) hr0 hc0 (by decide) aw_reach (by decide)
 rw [aw_sorted] at h1
 exact h1
end
theorem sT_row (w : World) : Kd.C k43 ((w.alloc (.cells #[.string ⟨#[110]⟩, .string ⟨#[105, 110, 116]⟩, .string ⟨#[116]⟩, .string ⟨#[42, 84]⟩] 48)).alloc (.cells #[.string ⟨#[84]⟩, .slice (some ⟨w.heap.size, 0, none⟩) 2 2] 43)) (some ⟨w.heap.size + 1, 0, none⟩) 1 [sT] := by
 have hf := lit_R k48 (W := w) w.heap.size 48 (xs := sT.f1) (inner := [.string ⟨#[110]⟩, .string ⟨#[105, 110, 116]⟩, .string ⟨#[116]⟩, .string ⟨#[42, 84]⟩]) (ok := fun _ => True) (okp := fun _ => True) (Reps.c2 ⟨[.string ⟨#[110]⟩], [.string ⟨#[105, 110, 116]⟩], rfl, rfl, rfl⟩ (Reps.c2 ⟨[.string ⟨#[116]⟩], [.string ⟨#[42, 84]⟩], rfl, rfl, rfl⟩ (Reps.none _ _))) (fun _ h => h) trivial (Nat.le_refl _) (by decide)
 have e1 : (w.alloc (.cells #[.string ⟨#[110]⟩, .string ⟨#[105, 110, 116]⟩, .string ⟨#[116]⟩, .string ⟨#[42, 84]⟩] 48)).heap.size = w.heap.size + 1 := World.size_alloc _ _
 have hs := lit_R k43 (W := w.alloc (.cells #[.string ⟨#[110]⟩, .string ⟨#[105, 110, 116]⟩, .string ⟨#[116]⟩, .string ⟨#[42, 84]⟩] 48)) w.heap.size 43 (xs := [sT]) (inner := [.string ⟨#[84]⟩, .slice (some ⟨w.heap.size, 0, none⟩) 2 2]) (ok := fun _ => True) (okp := fun _ => True) (Reps.c2 (k43_mkM _ _ _ sT hf) (Reps.none _ _)) (fun _ h => h) trivial (by omega) (by decide)
 rw [e1] at hs
 exact (Kd.R_reads' hs).2.2
theorem s0_row (w : World) : Kd.C k43 (w.alloc (.cells #[.string ⟨#[]⟩, .slice none 0 0] 43)) (some ⟨w.heap.size, 0, none⟩) 1 [⟨⟨#[]⟩, []⟩] :=
 (Kd.R_reads' (lit_R k43 (W := w) w.heap.size 43 (xs := [⟨⟨#[]⟩, []⟩]) (inner := [.string ⟨#[]⟩, .slice none 0 0]) (ok := fun _ => True) (okp := fun _ => True) (Reps.c2 (k43_mkM _ _ _ ⟨⟨#[]⟩, []⟩ (Kd.R_nil _ _ _ _ _)) (Reps.none _ _)) (fun _ h => h) trivial (Nat.le_refl _) (by decide))).2.2
theorem r1_row (w : World) : (Kd.int .i64).C (w.alloc (.cells #[.int .i64 1] 3)) (some ⟨w.heap.size, 0, none⟩) 1 [1] :=
 (Kd.R_reads' (lit_R (Kd.int .i64) (W := w) w.heap.size 3 (xs := [1]) (inner := [.int .i64 1]) (ok := fun _ => True) (okp := fun _ => True) (Reps.one rfl (Reps.none _ _)) (fun _ h => h) trivial (Nat.le_refl _) (by decide))).2.2
def truantlaw06_awake.f : Option (Bool) := some true
set_option maxRecDepth 100000 in
set_option maxHeartbeats 8000000 in
theorem truantlaw06_awake.calls (r : Bool) (w : World) (h : truantlaw06_awake.f = some r) :
  Calls Try.prog 31 #[] w fun e w' => e = .returned (.bool r) ∧ Below w.heap.size w w' := by
 obtain rfl := Option.some.inj h
 clear h
 have HC0 := Aside0.mk (sT_row w)
 go_enter Try.func31, Try.ntmps31
 go_wp2_with fail
 have e1 : (w.alloc (.cells #[.string ⟨#[110]⟩, .string ⟨#[105, 110, 116]⟩, .string ⟨#[116]⟩, .string ⟨#[42, 84]⟩] 48)).heap.size = w.heap.size + 1 := World.size_alloc _ _
 have HBa : Aside0 (Below w.heap.size w ((w.alloc (.cells #[.string ⟨#[110]⟩, .string ⟨#[105, 110, 116]⟩, .string ⟨#[116]⟩, .string ⟨#[42, 84]⟩] 48)).alloc (.cells #[.string ⟨#[84]⟩, .slice (some ⟨w.heap.size, 0, none⟩) 2 2] 43))) := ⟨below_alloc (below_alloc (Below.refl _ _) _) _⟩
 try rw [e1]
 refine (heap_New.calls 40 (some ⟨w.heap.size + 1, 0, none⟩) 1 [sT] 0 _ HC0.out (Nat.le_refl _) aw_check (by decide) aw_sF).mono ?_
 rintro e w1 ⟨g, sv, sok, rfl, hp1, hb1, hs1⟩
 have HB1 := Aside0.mk (below_step HBa.out hb1)
 have HW := Aside0.mk HBa.out.size
 have H1 := Aside0.mk hp1
 clear hp1 hb1 HC0 HBa e1
 generalize ((w.alloc (.cells #[.string ⟨#[110]⟩, .string ⟨#[105, 110, 116]⟩, .string ⟨#[116]⟩, .string ⟨#[42, 84]⟩] 48)).alloc (.cells #[.string ⟨#[84]⟩, .slice (some ⟨w.heap.size, 0, none⟩) 2 2] 43)).heap.size = base at H1 HW hs1
 go_wp2_with fail
 refine (aw_make1 H1.out).mono ?_
 rintro e w2 ⟨rfl, lv2, lok2, h2, _, _, hb2⟩
 have HB2 := Aside0.mk (HB1.out.trans (hb2.mono HW.out)); have H2 := Aside0.mk h2
 clear h2 hb2 H1 HB1
 go_wp2_with fail
 refine (aw_make2 H2.out).mono ?_
 rintro e w3 ⟨rfl, lv3, lok3, h3, _, _, hb3⟩
 have HB3 := Aside0.mk (HB2.out.trans (hb3.mono HW.out)); have H3 := Aside0.mk h3
 clear h3 hb3 H2 HB2
 go_wp2_with fail
 refine (aw_set H3.out).mono ?_
 rintro e w4 ⟨rfl, h4, _, hb4⟩
 have HB4 := Aside0.mk (HB3.out.trans (hb4.mono HW.out)); have H4 := Aside0.mk h4
 clear h4 hb4 H3 HB3
 go_wp2_with fail
 refine (aw_get 1 1 2 0 H4.out (by kernel_rfl) (by kernel_rfl)).mono ?_
 rintro e w5 ⟨rfl, hb5⟩
 have HB5 := Aside0.mk (below_step HB4.out hb5); have H5 := Aside0.mk (H4.out.below hb5)
 clear hb5 H4 HB4
 go_wp2_with fail
 refine (aw_get 0 0 0 10 H5.out (by kernel_rfl) (by kernel_rfl)).mono ?_
 rintro e w6 ⟨rfl, hb6⟩
 have HB6 := Aside0.mk (below_step HB5.out hb6); have H6 := Aside0.mk (H5.out.below hb6)
 clear hb6 H5 HB5
 go_wp2_with fail
 refine (aw_get 3 0 0 13 H6.out (by kernel_rfl) (by kernel_rfl)).mono ?_
 rintro e w7 ⟨rfl, hb7⟩
 have HB7 := Aside0.mk (below_step HB6.out hb7); have H7 := Aside0.mk (H6.out.below hb7)
 clear hb7 H6 HB6
 go_wp2_with fail
 refine (aw_get 1 2 0 2 H7.out (by kernel_rfl) (by kernel_rfl)).mono ?_
 rintro e w8 ⟨rfl, hb8⟩
 have HB8 := Aside0.mk (below_step HB7.out hb8); have H8 := Aside0.mk (H7.out.below hb8)
 clear hb8 H7 HB7
 go_wp2_with fail
 have hba : Below w8.heap.size w8 (w8.alloc (.cells #[.int .i64 1] 3)) := below_alloc (Below.refl _ _) _
 refine (aw_rea _ 1 (H8.out.below hba) (r1_row w8) (Nat.le_refl _)).mono ?_
 rintro e w9 ⟨v9, rfl, hr9, hb9⟩
 have HB9 := Aside0.mk (below_step (below_step HB8.out hba) hb9); have H9 := Aside0.mk ((H8.out.below hba).below hb9)
 obtain ⟨g9, c9, ev9, -⟩ := Kd.R_form hr9 (by decide)
 have hln : ([1, 2] : List Int).length = 2 := rfl
 rw [hln] at ev9
 subst ev9
 obtain ⟨ad9, e9, hc9⟩ := Kd.at_int (Kd.R_reads' hr9).2.2 1 (by decide) (by decide)
 cases e9
 have hc9' : w9.cell? ⟨g9, 1, none⟩ = some (.int .i64 2) := hc9
 clear hb9 hr9 hba H8 HB8 hc9 hln
 go_wp2_with fail
 refine (aw_near1 H9.out).mono ?_
 rintro e wa ⟨va, rfl, hra, hba⟩
 have HBa := Aside0.mk (below_step HB9.out hba); have Ha := Aside0.mk (H9.out.below hba)
 obtain ⟨ga, ca, eva, -⟩ := Kd.R_form hra (by decide)
 subst eva
 clear hra hba H9 HB9 hc9'
 go_wp2_with fail
 refine (aw_of Ha.out).mono ?_
 rintro e wb ⟨rfl, hbb⟩
 have HBb := Aside0.mk (below_step HBa.out hbb); have Hb := Aside0.mk (Ha.out.below hbb)
 clear hbb Ha HBa
 go_wp2_with fail
 refine (aw_len Hb.out).mono ?_
 rintro e wc ⟨rfl, hbc⟩
 have HBc := Aside0.mk (below_step HBb.out hbc)
 clear hbc Hb HBb
 go_wp2_with fail
 refine (heap_New.bad 40 (some ⟨wc.heap.size, 0, none⟩) 1 [⟨⟨#[]⟩, []⟩] 0 1 _ (s0_row wc) (Nat.le_refl _) aw_bad rfl).mono ?_
 rintro e wd ⟨rfl, hbd⟩
 have HBd := Aside0.mk (below_step HBc.out (below_step (below_alloc (Below.refl _ _) _) hbd))
 clear hbd HBc
 go_wp2
 go_ret
 exact ⟨rfl, HBd.out⟩
section
variable {α : Type}
theorem Ev.pos {c : Prop} [Decidable c] {A B : Nat → Option α} {r : α} (h : c) (k : Ev A r) : Ev (fun n => if c then A n else B n) r := Ev.congr (fun n => if_pos h) k
theorem Ev.neg {c : Prop} [Decidable c] {A B : Nat → Option α} {r : α} (h : ¬ c) (k : Ev B r) : Ev (fun n => if c then A n else B n) r := Ev.congr (fun n => if_neg h) k
theorem Ev.one {β : Type} {a : Option β} {b : β} {f : Nat → β → Option α} {r : α} (h : a = some b) (k : Ev (fun n => f n b) r) : Ev (fun n => a.bind (f n)) r := Ev.congr (fun n => by rw [h]; rfl) k
theorem Ev.eq {g : Nat → Option α} {r r' : α} (k : Ev g r) (h : r = r') : Ev g r' := h ▸ k
end
end Go.Proofs.Ytonmlncejikbiaa.Q
