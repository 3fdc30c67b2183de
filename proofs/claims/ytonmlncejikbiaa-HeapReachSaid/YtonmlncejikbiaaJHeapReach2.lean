/- What the row of HeapReach rests on, part 2: contracts of the functions that it reaches, and the plain law. -/
import Derived.Test.YtonmlncejikbiaaJHeapReach1
namespace Go.Proofs.Ytonmlncejikbiaa.Q
open Go.RowKit Go.Proofs.YtonmlncejikbiaaW.PrintWords Go.Proofs.YtonmlncejikbiaaW.PrintLast Go.Proofs.YtonmlncejikbiaaW.PrintMore
attribute [local go_sem] max2_int min2_int max_two min_two max_three min_three max_four min_four   -- for this text's walks alone
set_option linter.unusedVariables false
set_option linter.unusedSimpArgs false
/-! ### truantref03_Check: function 16 -/
mutual
def truantref03_Check.l0 : Nat → List (S43) → Int → Option (Int × Int)
 | 0, _, _ => none
 | k + 1, x0, x4 => if x4 < (x0.length : Int) then (if 0 ≤ x4 then ((truantref02_Word.f k ((rd_T43 x0 x4).f0)).bind fun t109 => (if t109 = true then ((truantref03_Find.f k x0 ((rd_T43 x0 x4).f0)).bind fun t110 => (if t110 < x4 then (some (x4, 6)) else (if (((rd_T43 x0 x4).f1).length : Int) > 8 then (some (x4, 4)) else (truantref03_Check.l1 k x0 x4 0 ((rd_T43 x0 x4).f0) ((rd_T43 x0 x4).f1))))) else (some (x4, 1)))) else (none)) else (some (0, 0))
def truantref03_Check.l1 : Nat → List (S43) → Int → Int → ByteArray → List (S48) → Option (Int × Int)
 | 0, _, _, _, _, _ => none
 | k + 1, x0, x4, x6, x109000, x109001 => if x6 < (x109001.length : Int) then (if 0 ≤ x6 then ((truantref02_Word.f k ((rd_T48 x109001 x6).f0)).bind fun t112 => (if t112 = true then (truantref03_Check.l2 k x0 x4 x6 0 x109000 x109001) else (some (x4, 1)))) else (none)) else (truantref03_Check.l0 k x0 (wrap64 (x4 + 1)))
def truantref03_Check.l2 : Nat → List (S43) → Int → Int → Int → ByteArray → List (S48) → Option (Int × Int)
 | 0, _, _, _, _, _, _ => none
 | k + 1, x0, x4, x6, x7, x109000, x109001 => if x7 < x6 then (if 0 ≤ x7 then (if x7 < (x109001.length : Int) then (if 0 ≤ x6 then (if x6 < (x109001.length : Int) then (if ((rd_T48 x109001 x7).f0).toList = ((rd_T48 x109001 x6).f0).toList then (some (x4, 6)) else (truantref03_Check.l2 k x0 x4 x6 (wrap64 (x7 + 1)) x109000 x109001)) else (none)) else (none)) else (none)) else (none)) else (if 0 ≤ x6 then (if x6 < (x109001.length : Int) then ((truantref03_Is.f k x0 ((rd_T48 x109001 x6).f1)).bind fun t116 => (if t116 = true then (truantref03_Check.l1 k x0 x4 (wrap64 (x6 + 1)) x109000 x109001) else (some (x4, 7)))) else (none)) else (none))
end
def truantref03_Check.f (k : Nat) (l0 : List (S43)) : Option (Int × Int) := if (l0.length : Int) > 12 then (some (0, 4)) else (truantref03_Check.l0 k l0 0)
theorem truantref03_Check.mono_l : ∀ k, (∀ y0 y1, LeO (truantref03_Check.l0 k y0 y1) (truantref03_Check.l0 (k + 1) y0 y1)) ∧ (∀ y0 y1 y2 y3 y4, LeO (truantref03_Check.l1 k y0 y1 y2 y3 y4) (truantref03_Check.l1 (k + 1) y0 y1 y2 y3 y4)) ∧ (∀ y0 y1 y2 y3 y4 y5, LeO (truantref03_Check.l2 k y0 y1 y2 y3 y4 y5) (truantref03_Check.l2 (k + 1) y0 y1 y2 y3 y4 y5))
 | 0 => ⟨fun _ _ r h => by simp [truantref03_Check.l0] at h, fun _ _ _ _ _ r h => by simp [truantref03_Check.l1] at h, fun _ _ _ _ _ _ r h => by simp [truantref03_Check.l2] at h⟩
 | k + 1 => by
  obtain ⟨ih0, ih1, ih2⟩ := truantref03_Check.mono_l k
  refine ⟨?_, ?_, ?_⟩
  ·intro y0 y1
   unfold truantref03_Check.l0
   repeat' first
   | (with_reducible exact ih0 _ _)
   | (with_reducible exact ih1 _ _ _ _ _)
   | (with_reducible exact ih2 _ _ _ _ _ _)
   | (with_reducible exact truantref02_Word.mono _ _)
   | (with_reducible exact truantref03_Find.mono _ _ _)
   | (with_reducible exact truantref03_Is.mono _ _ _)
   | (with_reducible exact LeO.refl _)
   | (with_reducible exact LeO.none _)
   | (with_reducible refine LeO.ite ?_ ?_)
   | (with_reducible refine LeO.bind ?_ (fun _ => ?_))
   | exact ih0 _ _
   | exact ih1 _ _ _ _ _
   | exact ih2 _ _ _ _ _ _
   | exact truantref02_Word.mono _ _
   | exact truantref03_Find.mono _ _ _
   | exact truantref03_Is.mono _ _ _
   | exact LeO.none _
   | refine LeO.ite ?_ ?_
   | refine LeO.bind ?_ (fun _ => ?_)
  ·intro y0 y1 y2 y3 y4
   unfold truantref03_Check.l1
   repeat' first
   | (with_reducible exact ih0 _ _)
   | (with_reducible exact ih1 _ _ _ _ _)
   | (with_reducible exact ih2 _ _ _ _ _ _)
   | (with_reducible exact truantref02_Word.mono _ _)
   | (with_reducible exact truantref03_Find.mono _ _ _)
   | (with_reducible exact truantref03_Is.mono _ _ _)
   | (with_reducible exact LeO.refl _)
   | (with_reducible exact LeO.none _)
   | (with_reducible refine LeO.ite ?_ ?_)
   | (with_reducible refine LeO.bind ?_ (fun _ => ?_))
   | exact ih0 _ _
   | exact ih1 _ _ _ _ _
   | exact ih2 _ _ _ _ _ _
   | exact truantref02_Word.mono _ _
   | exact truantref03_Find.mono _ _ _
   | exact truantref03_Is.mono _ _ _
   | exact LeO.none _
   | refine LeO.ite ?_ ?_
   | refine LeO.bind ?_ (fun _ => ?_)
  ·intro y0 y1 y2 y3 y4 y5
   unfold truantref03_Check.l2
   repeat' first
   | (with_reducible exact ih0 _ _)
   | (with_reducible exact ih1 _ _ _ _ _)
   | (with_reducible exact ih2 _ _ _ _ _ _)
   | (with_reducible exact truantref02_Word.mono _ _)
   | (with_reducible exact truantref03_Find.mono _ _ _)
   | (with_reducible exact truantref03_Is.mono _ _ _)
   | (with_reducible exact LeO.refl _)
   | (with_reducible exact LeO.none _)
   | (with_reducible refine LeO.ite ?_ ?_)
   | (with_reducible refine LeO.bind ?_ (fun _ => ?_))
   | exact ih0 _ _
   | exact ih1 _ _ _ _ _
   | exact ih2 _ _ _ _ _ _
   | exact truantref02_Word.mono _ _
   | exact truantref03_Find.mono _ _ _
   | exact truantref03_Is.mono _ _ _
   | exact LeO.none _
   | refine LeO.ite ?_ ?_
   | refine LeO.bind ?_ (fun _ => ?_)
theorem truantref03_Check.mono : ∀ a0 k, LeO (truantref03_Check.f k a0) (truantref03_Check.f (k + 1) a0) := by
 intro a0 k
 obtain ⟨ih0, ih1, ih2⟩ := truantref03_Check.mono_l k
 unfold truantref03_Check.f
 repeat' first
   | (with_reducible exact ih0 _ _)
   | (with_reducible exact ih1 _ _ _ _ _)
   | (with_reducible exact ih2 _ _ _ _ _ _)
   | (with_reducible exact truantref02_Word.mono _ _)
   | (with_reducible exact truantref03_Find.mono _ _ _)
   | (with_reducible exact truantref03_Is.mono _ _ _)
   | (with_reducible exact LeO.refl _)
   | (with_reducible exact LeO.none _)
   | (with_reducible refine LeO.ite ?_ ?_)
   | (with_reducible refine LeO.bind ?_ (fun _ => ?_))
   | exact ih0 _ _
   | exact ih1 _ _ _ _ _
   | exact ih2 _ _ _ _ _ _
   | exact truantref02_Word.mono _ _
   | exact truantref03_Find.mono _ _ _
   | exact truantref03_Is.mono _ _ _
   | exact LeO.none _
   | refine LeO.ite ?_ ?_
   | refine LeO.bind ?_ (fun _ => ?_)
set_option maxHeartbeats 8000000 in
set_option maxRecDepth 100000 in
theorem truantref03_Check.calls (k : Nat) (A0 : Option Addr) (c0 : Nat) (l0 : List (S43)) (r1 : Int) (r2 : Int) (w : World) (hr0 : Kd.C k43 w A0 l0.length l0) (hc0 : l0.length ≤ c0) (h : truantref03_Check.f k l0 = some (r1, r2)) :
  Calls Try.prog 16 #[.slice A0 l0.length c0] w fun e w' => e = .returned (.tuple #[.int .i64 r1, .int .i64 r2]) ∧ Below w.heap.size w w' := by
 have hu43 := Try.underlying43
 have HR0 := Aside0.mk hr0
 have HC0 := Aside0.mk hc0
 clear hr0 hc0
 have HB := Aside0.mk (Below.refl w.heap.size w)
 have H : (if (l0.length : Int) > 12 then (some (0, 4)) else (truantref03_Check.l0 k l0 0)) = some (r1, r2) := h
 clear h
 by_cases c2 : (l0.length : Int) > 12
 ·rw [if_pos c2] at H
  have c2b0 : decide (12 < (l0.length : Int)) = true := decide_eq_true c2
  have c2b1 : decide (12 < l0.length) = true := decide_eq_true (by omega)
  clear c2
  simp only [Option.some.injEq, Prod.mk.injEq] at H
  obtain ⟨rfl, rfl⟩ := H
  go_enter Try.func16, Try.ntmps16
  go_wp2
  repeat (go_quiet (fail); try go_wp2)
  go_ret2
  exact ⟨by first | rfl | (simp [errW_none, errW_some] <;> rfl) | (simp [*, errW_none, errW_some] <;> rfl), by repeat (first | (with_reducible first | exact HB.out | apply below_alloc | apply pw_below_drewN | apply below_drew1) | exact HB.out)⟩
 ·rw [if_neg c2] at H
  have c2b0 : decide (12 < (l0.length : Int)) = false := decide_eq_false c2
  have c2b1 : decide (12 < l0.length) = false := decide_eq_false (by omega)
  clear c2
  have H' := Aside0.mk H
  clear H
  go_enter Try.func16, Try.ntmps16
  go_wp2
  repeat (go_quiet (fail); try go_wp2)
  go_loopg [4] k (fun kq v4 w' => ∃ (x4_1 : Int), v4 = .int .i64 x4_1 ∧ Aside0 (truantref03_Check.l0 kq l0 x4_1 = some (r1, r2)) ∧ Aside0 (kq ≤ k) ∧ Aside0 (Below w.heap.size w w'))
  case atStart => exact ⟨(0), (by first | rfl | (simp; done) | (simp [*]; done)), H', ⟨Nat.le_refl _⟩, ⟨by repeat (first | (with_reducible first | exact HB.out | apply below_alloc | apply pw_below_drewN | apply below_drew1) | exact HB.out)⟩⟩
  case round =>
   clear H'
   try clear c1
   try clear c2
   try clear c2b0
   try clear c2b1
   try clear p2
   obtain ⟨x4_1, rfl, HA, HK1, HB⟩ := hrel
   cases gk with
   | zero => exact absurd HA.out (by simp [truantref03_Check.l0])
   | succ k1 =>
    have H := HA.out
    clear HA
    simp only [truantref03_Check.l0] at H
    by_cases c3 : x4_1 < (l0.length : Int)
    ·rw [if_pos c3] at H
     have c3b0 : decide (x4_1 < (l0.length : Int)) = true := decide_eq_true c3
     clear c3
     by_cases c4 : 0 ≤ x4_1
     ·rw [if_pos c4] at H
      have c4b0 : decide (0 ≤ x4_1) = true := decide_eq_true c4
      clear c4
      replace H := Option.bind_eq_some_iff.mp H
      obtain ⟨t109, A50, H⟩ := H
      replace H : (if t109 = true then ((truantref03_Find.f k1 l0 ((rd_T43 l0 x4_1).f0)).bind fun t110 => (if t110 < x4_1 then (some (x4_1, 6)) else (if (((rd_T43 l0 x4_1).f1).length : Int) > 8 then (some (x4_1, 4)) else (truantref03_Check.l1 k1 l0 x4_1 0 ((rd_T43 l0 x4_1).f0) ((rd_T43 l0 x4_1).f1))))) else (some (x4_1, 1))) = some (r1, r2) := H
      have A5 := Aside0.mk A50
      clear A50
      by_cases c6 : t109 = true
      ·subst c6
       have H1 : ((truantref03_Find.f k1 l0 ((rd_T43 l0 x4_1).f0)).bind fun t110 => (if t110 < x4_1 then (some (x4_1, 6)) else (if (((rd_T43 l0 x4_1).f1).length : Int) > 8 then (some (x4_1, 4)) else (truantref03_Check.l1 k1 l0 x4_1 0 ((rd_T43 l0 x4_1).f0) ((rd_T43 l0 x4_1).f1))))) = some (r1, r2) := by rw [if_pos rfl] at H; exact H
       clear H
       have H := H1
       clear H1
       replace H := Option.bind_eq_some_iff.mp H
       obtain ⟨t110, A70, H⟩ := H
       replace H : (if t110 < x4_1 then (some (x4_1, 6)) else (if (((rd_T43 l0 x4_1).f1).length : Int) > 8 then (some (x4_1, 4)) else (truantref03_Check.l1 k1 l0 x4_1 0 ((rd_T43 l0 x4_1).f0) ((rd_T43 l0 x4_1).f1)))) = some (r1, r2) := H
       have A7 := Aside0.mk A70
       clear A70
       by_cases c8 : t110 < x4_1
       ·rw [if_pos c8] at H
        have c8b0 : decide (t110 < x4_1) = true := decide_eq_true c8
        clear c8
        simp only [Option.some.injEq, Prod.mk.injEq] at H
        obtain ⟨rfl, rfl⟩ := H
        have p107 : 0 ≤ (x4_1 : Int) := of_decide_eq_true (by first | (with_reducible assumption) | assumption)
        have q107 : x4_1 < (l0.length : Int) := of_decide_eq_true (by first | (with_reducible assumption) | assumption)
        obtain ⟨ad107, A107_1, c107_1, e107, hx107_0, hx107_1, hl107_1, hi107_1⟩ := at_T43 HR0.out x4_1 p107 q107
        cases e107
        replace hx107_0 := (HB.out.cell (World.block_lt_of_cell? w _ hx107_0)).trans hx107_0
        replace hx107_1 := (HB.out.cell (World.block_lt_of_cell? w _ hx107_1)).trans hx107_1
        have HR107_1 := Aside0.mk hi107_1
        have HC107_1 := Aside0.mk hl107_1
        clear hi107_1 hl107_1
        replace p107 := eq_true p107
        replace q107 := eq_true q107
        go_wp2_with (first | ((with_reducible refine gate_dst (N := 5) rfl ?_); refine box_event ?hg (N := 5) ?hd (cs := #[.string (⟨#[]⟩ : ByteArray), .slice none 0 0]) (t := 43) ?hr ?_; (case hd => rfl); (case hg => rfl); (case hr => first | (go_simp; done) | (go_simp; rfl)); intro gb108 hg w9 hbox hb; have n0_ := Aside0.mk (below_step (by repeat (first | (with_reducible first | exact HB.out | apply below_alloc | apply pw_below_drewN | apply below_drew1) | exact HB.out)) hb); have n1_ := Aside0.mk (hbox); have n2_ := Aside0.mk ((by rw [hg]; exact (below_size (by repeat (first | (with_reducible first | exact HB.out | apply below_alloc | apply pw_below_drewN | apply below_drew1) | exact HB.out))) : w.heap.size ≤ gb108)); have n3_ := Aside0.mk ((by rw [hg]; exact (below_size (by repeat (first | (with_reducible first | exact HB.out | apply below_alloc | apply pw_below_drewN | apply below_drew1) | exact HB.out))) : w.heap.size ≤ gb108)); clear HB; have HB := n0_; have BK108 := n1_; have GW108 := n2_; have GE108 := n3_; clear n0_ n1_ n2_ n3_; clear hb hbox hg; have hcz10_0 : w9.cell? ⟨gb108, 0, none⟩ = some (.string (⟨#[]⟩ : ByteArray)) := (blk_cell BK108.out 0).trans rfl; have hcz10_1 : w9.cell? ⟨gb108, 1, none⟩ = some (.slice none 0 0) := (blk_cell BK108.out 1).trans rfl; have hfz10_0 := blk_frozen BK108.out 0; have hfz10_1 := blk_frozen BK108.out 1) | (go_at_call 70; (with_reducible refine (truantref02_Word.calls k1 ((rd_T43 l0 x4_1).f0) true _ A5.out).mono ?_); rintro e w11 ⟨rfl, hb⟩; have n0_ := Aside0.mk (blk_below (g := gb108) (o := .cells #[.string ((rd_T43 l0 x4_1).f0), .slice A107_1 ((rd_T43 l0 x4_1).f1).length c107_1] 43 (0, 0)) (by (with_reducible repeat (first | refine blk_drewN ?_ _ | refine blk_drew ?_ | refine blk_alloc ?_ _)); refine blk_put (cs := #[.string ((rd_T43 l0 x4_1).f0), .slice none 0 0]) ?_ 1 _ rfl; (with_reducible repeat (first | refine blk_drewN ?_ _ | refine blk_drew ?_ | refine blk_alloc ?_ _)); refine blk_put (cs := #[.string (⟨#[]⟩ : ByteArray), .slice none 0 0]) ?_ 0 _ rfl; (with_reducible repeat (first | refine blk_drewN ?_ _ | refine blk_drew ?_ | refine blk_alloc ?_ _)); exact BK108.out) hb); have n1_ := Aside0.mk (below_step (by repeat (first | (with_reducible first | exact HB.out | apply below_alloc | apply pw_below_drewN | apply below_drew1 | refine below_set ?_ GE108.out) | exact HB.out)) hb); clear BK108; clear HB; have BK108 := n0_; have HB := n1_; clear n0_ n1_; (try clear hb); (try clear hb2); (try clear hk); (try clear hi); have hcz12_0 : w11.cell? ⟨gb108, 0, none⟩ = some (.string ((rd_T43 l0 x4_1).f0)) := (blk_cell BK108.out 0).trans rfl; have hcz12_1 : w11.cell? ⟨gb108, 1, none⟩ = some (.slice A107_1 ((rd_T43 l0 x4_1).f1).length c107_1) := (blk_cell BK108.out 1).trans rfl; have hfz12_0 := blk_frozen BK108.out 0; have hfz12_1 := blk_frozen BK108.out 1) | (go_at_call 19; (with_reducible refine (truantref03_Find.calls k1 _ _ l0 ((rd_T43 l0 x4_1).f0) t110 _ ?side1 ?side2 A7.out).mono ?_); (case side1 => repeat (first | exact (Kd.C_below HR0.out HB.out) | (with_reducible refine Kd.C_alloc ?_ _) | (with_reducible refine Kd.C_drewN ?_ _) | (with_reducible refine Kd.C_drew ?_))); (case side2 => exact HC0.out); rintro e w' ⟨rfl, ⟨nd, rfl⟩⟩; (try first | exact ⟨rfl, _, World.drewN_drewN _ _ _⟩ | exact ⟨rfl, _, Eq.trans (World.drewN_drewN _ _ _) (congrArg (World.drewN _) (Nat.add_assoc _ _ _))⟩)))
        repeat (go_quiet (first | ((with_reducible refine gate_dst (N := 5) rfl ?_); refine box_event ?hg (N := 5) ?hd (cs := #[.string (⟨#[]⟩ : ByteArray), .slice none 0 0]) (t := 43) ?hr ?_; (case hd => rfl); (case hg => rfl); (case hr => first | (go_simp; done) | (go_simp; rfl)); intro gb108 hg w9 hbox hb; have n0_ := Aside0.mk (below_step (by repeat (first | (with_reducible first | exact HB.out | apply below_alloc | apply pw_below_drewN | apply below_drew1) | exact HB.out)) hb); have n1_ := Aside0.mk (hbox); have n2_ := Aside0.mk ((by rw [hg]; exact (below_size (by repeat (first | (with_reducible first | exact HB.out | apply below_alloc | apply pw_below_drewN | apply below_drew1) | exact HB.out))) : w.heap.size ≤ gb108)); have n3_ := Aside0.mk ((by rw [hg]; exact (below_size (by repeat (first | (with_reducible first | exact HB.out | apply below_alloc | apply pw_below_drewN | apply below_drew1) | exact HB.out))) : w.heap.size ≤ gb108)); clear HB; have HB := n0_; have BK108 := n1_; have GW108 := n2_; have GE108 := n3_; clear n0_ n1_ n2_ n3_; clear hb hbox hg; have hcz10_0 : w9.cell? ⟨gb108, 0, none⟩ = some (.string (⟨#[]⟩ : ByteArray)) := (blk_cell BK108.out 0).trans rfl; have hcz10_1 : w9.cell? ⟨gb108, 1, none⟩ = some (.slice none 0 0) := (blk_cell BK108.out 1).trans rfl; have hfz10_0 := blk_frozen BK108.out 0; have hfz10_1 := blk_frozen BK108.out 1) | (go_at_call 70; (with_reducible refine (truantref02_Word.calls k1 ((rd_T43 l0 x4_1).f0) true _ A5.out).mono ?_); clear A5; rintro e w11 ⟨rfl, hb⟩; have n0_ := Aside0.mk (blk_below (g := gb108) (o := .cells #[.string ((rd_T43 l0 x4_1).f0), .slice A107_1 ((rd_T43 l0 x4_1).f1).length c107_1] 43 (0, 0)) (by (with_reducible repeat (first | refine blk_drewN ?_ _ | refine blk_drew ?_ | refine blk_alloc ?_ _)); refine blk_put (cs := #[.string ((rd_T43 l0 x4_1).f0), .slice none 0 0]) ?_ 1 _ rfl; (with_reducible repeat (first | refine blk_drewN ?_ _ | refine blk_drew ?_ | refine blk_alloc ?_ _)); refine blk_put (cs := #[.string (⟨#[]⟩ : ByteArray), .slice none 0 0]) ?_ 0 _ rfl; (with_reducible repeat (first | refine blk_drewN ?_ _ | refine blk_drew ?_ | refine blk_alloc ?_ _)); exact BK108.out) hb); have n1_ := Aside0.mk (below_step (by repeat (first | (with_reducible first | exact HB.out | apply below_alloc | apply pw_below_drewN | apply below_drew1 | refine below_set ?_ GE108.out) | exact HB.out)) hb); clear BK108; clear HB; have BK108 := n0_; have HB := n1_; clear n0_ n1_; (try clear hb); (try clear hb2); (try clear hk); (try clear hi); have hcz12_0 : w11.cell? ⟨gb108, 0, none⟩ = some (.string ((rd_T43 l0 x4_1).f0)) := (blk_cell BK108.out 0).trans rfl; have hcz12_1 : w11.cell? ⟨gb108, 1, none⟩ = some (.slice A107_1 ((rd_T43 l0 x4_1).f1).length c107_1) := (blk_cell BK108.out 1).trans rfl; have hfz12_0 := blk_frozen BK108.out 0; have hfz12_1 := blk_frozen BK108.out 1) | (go_at_call 19; (with_reducible refine (truantref03_Find.calls k1 _ _ l0 ((rd_T43 l0 x4_1).f0) t110 _ ?side1 ?side2 A7.out).mono ?_); clear A7; (case side1 => repeat (first | exact (Kd.C_below HR0.out HB.out) | (with_reducible refine Kd.C_alloc ?_ _) | (with_reducible refine Kd.C_drewN ?_ _) | (with_reducible refine Kd.C_drew ?_))); (case side2 => exact HC0.out); rintro e w' ⟨rfl, ⟨nd, rfl⟩⟩; (try first | exact ⟨rfl, _, World.drewN_drewN _ _ _⟩ | exact ⟨rfl, _, Eq.trans (World.drewN_drewN _ _ _) (congrArg (World.drewN _) (Nat.add_assoc _ _ _))⟩))); try go_wp2_with (first | ((with_reducible refine gate_dst (N := 5) rfl ?_); refine box_event ?hg (N := 5) ?hd (cs := #[.string (⟨#[]⟩ : ByteArray), .slice none 0 0]) (t := 43) ?hr ?_; (case hd => rfl); (case hg => rfl); (case hr => first | (go_simp; done) | (go_simp; rfl)); intro gb108 hg w9 hbox hb; have n0_ := Aside0.mk (below_step (by repeat (first | (with_reducible first | exact HB.out | apply below_alloc | apply pw_below_drewN | apply below_drew1) | exact HB.out)) hb); have n1_ := Aside0.mk (hbox); have n2_ := Aside0.mk ((by rw [hg]; exact (below_size (by repeat (first | (with_reducible first | exact HB.out | apply below_alloc | apply pw_below_drewN | apply below_drew1) | exact HB.out))) : w.heap.size ≤ gb108)); have n3_ := Aside0.mk ((by rw [hg]; exact (below_size (by repeat (first | (with_reducible first | exact HB.out | apply below_alloc | apply pw_below_drewN | apply below_drew1) | exact HB.out))) : w.heap.size ≤ gb108)); clear HB; have HB := n0_; have BK108 := n1_; have GW108 := n2_; have GE108 := n3_; clear n0_ n1_ n2_ n3_; clear hb hbox hg; have hcz10_0 : w9.cell? ⟨gb108, 0, none⟩ = some (.string (⟨#[]⟩ : ByteArray)) := (blk_cell BK108.out 0).trans rfl; have hcz10_1 : w9.cell? ⟨gb108, 1, none⟩ = some (.slice none 0 0) := (blk_cell BK108.out 1).trans rfl; have hfz10_0 := blk_frozen BK108.out 0; have hfz10_1 := blk_frozen BK108.out 1) | (go_at_call 70; (with_reducible refine (truantref02_Word.calls k1 ((rd_T43 l0 x4_1).f0) true _ A5.out).mono ?_); clear A5; rintro e w11 ⟨rfl, hb⟩; have n0_ := Aside0.mk (blk_below (g := gb108) (o := .cells #[.string ((rd_T43 l0 x4_1).f0), .slice A107_1 ((rd_T43 l0 x4_1).f1).length c107_1] 43 (0, 0)) (by (with_reducible repeat (first | refine blk_drewN ?_ _ | refine blk_drew ?_ | refine blk_alloc ?_ _)); refine blk_put (cs := #[.string ((rd_T43 l0 x4_1).f0), .slice none 0 0]) ?_ 1 _ rfl; (with_reducible repeat (first | refine blk_drewN ?_ _ | refine blk_drew ?_ | refine blk_alloc ?_ _)); refine blk_put (cs := #[.string (⟨#[]⟩ : ByteArray), .slice none 0 0]) ?_ 0 _ rfl; (with_reducible repeat (first | refine blk_drewN ?_ _ | refine blk_drew ?_ | refine blk_alloc ?_ _)); exact BK108.out) hb); have n1_ := Aside0.mk (below_step (by repeat (first | (with_reducible first | exact HB.out | apply below_alloc | apply pw_below_drewN | apply below_drew1 | refine below_set ?_ GE108.out) | exact HB.out)) hb); clear BK108; clear HB; have BK108 := n0_; have HB := n1_; clear n0_ n1_; (try clear hb); (try clear hb2); (try clear hk); (try clear hi); have hcz12_0 : w11.cell? ⟨gb108, 0, none⟩ = some (.string ((rd_T43 l0 x4_1).f0)) := (blk_cell BK108.out 0).trans rfl; have hcz12_1 : w11.cell? ⟨gb108, 1, none⟩ = some (.slice A107_1 ((rd_T43 l0 x4_1).f1).length c107_1) := (blk_cell BK108.out 1).trans rfl; have hfz12_0 := blk_frozen BK108.out 0; have hfz12_1 := blk_frozen BK108.out 1) | (go_at_call 19; (with_reducible refine (truantref03_Find.calls k1 _ _ l0 ((rd_T43 l0 x4_1).f0) t110 _ ?side1 ?side2 A7.out).mono ?_); clear A7; (case side1 => repeat (first | exact (Kd.C_below HR0.out HB.out) | (with_reducible refine Kd.C_alloc ?_ _) | (with_reducible refine Kd.C_drewN ?_ _) | (with_reducible refine Kd.C_drew ?_))); (case side2 => exact HC0.out); rintro e w' ⟨rfl, ⟨nd, rfl⟩⟩; (try first | exact ⟨rfl, _, World.drewN_drewN _ _ _⟩ | exact ⟨rfl, _, Eq.trans (World.drewN_drewN _ _ _) (congrArg (World.drewN _) (Nat.add_assoc _ _ _))⟩))))
        go_ret2
        exact ⟨by first | rfl | (simp [errW_none, errW_some] <;> rfl) | (simp [*, errW_none, errW_some] <;> rfl), by repeat (first | (with_reducible first | exact HB.out | apply below_alloc | apply pw_below_drewN | apply below_drew1 | refine below_set ?_ GE108.out) | exact HB.out)⟩
       ·rw [if_neg c8] at H
        have c8b0 : decide (t110 < x4_1) = false := decide_eq_false c8
        clear c8
        by_cases c13 : (((rd_T43 l0 x4_1).f1).length : Int) > 8
        ·rw [if_pos c13] at H
         have c13b0 : decide (8 < (((rd_T43 l0 x4_1).f1).length : Int)) = true := decide_eq_true c13
         have c13b1 : decide (8 < ((rd_T43 l0 x4_1).f1).length) = true := decide_eq_true (by omega)
         clear c13
         simp only [Option.some.injEq, Prod.mk.injEq] at H
         obtain ⟨rfl, rfl⟩ := H
         have p107 : 0 ≤ (x4_1 : Int) := of_decide_eq_true (by first | (with_reducible assumption) | assumption)
         have q107 : x4_1 < (l0.length : Int) := of_decide_eq_true (by first | (with_reducible assumption) | assumption)
         obtain ⟨ad107, A107_1, c107_1, e107, hx107_0, hx107_1, hl107_1, hi107_1⟩ := at_T43 HR0.out x4_1 p107 q107
         cases e107
         replace hx107_0 := (HB.out.cell (World.block_lt_of_cell? w _ hx107_0)).trans hx107_0
         replace hx107_1 := (HB.out.cell (World.block_lt_of_cell? w _ hx107_1)).trans hx107_1
         have HR107_1 := Aside0.mk hi107_1
         have HC107_1 := Aside0.mk hl107_1
         clear hi107_1 hl107_1
         replace p107 := eq_true p107
         replace q107 := eq_true q107
         go_wp2_with (first | ((with_reducible refine gate_dst (N := 5) rfl ?_); refine box_event ?hg (N := 5) ?hd (cs := #[.string (⟨#[]⟩ : ByteArray), .slice none 0 0]) (t := 43) ?hr ?_; (case hd => rfl); (case hg => rfl); (case hr => first | (go_simp; done) | (go_simp; rfl)); intro gb108 hg w14 hbox hb; have n0_ := Aside0.mk (below_step (by repeat (first | (with_reducible first | exact HB.out | apply below_alloc | apply pw_below_drewN | apply below_drew1) | exact HB.out)) hb); have n1_ := Aside0.mk (hbox); have n2_ := Aside0.mk ((by rw [hg]; exact (below_size (by repeat (first | (with_reducible first | exact HB.out | apply below_alloc | apply pw_below_drewN | apply below_drew1) | exact HB.out))) : w.heap.size ≤ gb108)); have n3_ := Aside0.mk ((by rw [hg]; exact (below_size (by repeat (first | (with_reducible first | exact HB.out | apply below_alloc | apply pw_below_drewN | apply below_drew1) | exact HB.out))) : w.heap.size ≤ gb108)); clear HB; have HB := n0_; have BK108 := n1_; have GW108 := n2_; have GE108 := n3_; clear n0_ n1_ n2_ n3_; clear hb hbox hg; have hcz15_0 : w14.cell? ⟨gb108, 0, none⟩ = some (.string (⟨#[]⟩ : ByteArray)) := (blk_cell BK108.out 0).trans rfl; have hcz15_1 : w14.cell? ⟨gb108, 1, none⟩ = some (.slice none 0 0) := (blk_cell BK108.out 1).trans rfl; have hfz15_0 := blk_frozen BK108.out 0; have hfz15_1 := blk_frozen BK108.out 1) | (go_at_call 70; (with_reducible refine (truantref02_Word.calls k1 ((rd_T43 l0 x4_1).f0) true _ A5.out).mono ?_); rintro e w16 ⟨rfl, hb⟩; have n0_ := Aside0.mk (blk_below (g := gb108) (o := .cells #[.string ((rd_T43 l0 x4_1).f0), .slice A107_1 ((rd_T43 l0 x4_1).f1).length c107_1] 43 (0, 0)) (by (with_reducible repeat (first | refine blk_drewN ?_ _ | refine blk_drew ?_ | refine blk_alloc ?_ _)); refine blk_put (cs := #[.string ((rd_T43 l0 x4_1).f0), .slice none 0 0]) ?_ 1 _ rfl; (with_reducible repeat (first | refine blk_drewN ?_ _ | refine blk_drew ?_ | refine blk_alloc ?_ _)); refine blk_put (cs := #[.string (⟨#[]⟩ : ByteArray), .slice none 0 0]) ?_ 0 _ rfl; (with_reducible repeat (first | refine blk_drewN ?_ _ | refine blk_drew ?_ | refine blk_alloc ?_ _)); exact BK108.out) hb); have n1_ := Aside0.mk (below_step (by repeat (first | (with_reducible first | exact HB.out | apply below_alloc | apply pw_below_drewN | apply below_drew1 | refine below_set ?_ GE108.out) | exact HB.out)) hb); clear BK108; clear HB; have BK108 := n0_; have HB := n1_; clear n0_ n1_; (try clear hb); (try clear hb2); (try clear hk); (try clear hi); have hcz17_0 : w16.cell? ⟨gb108, 0, none⟩ = some (.string ((rd_T43 l0 x4_1).f0)) := (blk_cell BK108.out 0).trans rfl; have hcz17_1 : w16.cell? ⟨gb108, 1, none⟩ = some (.slice A107_1 ((rd_T43 l0 x4_1).f1).length c107_1) := (blk_cell BK108.out 1).trans rfl; have hfz17_0 := blk_frozen BK108.out 0; have hfz17_1 := blk_frozen BK108.out 1) | (go_at_call 19; (with_reducible refine (truantref03_Find.calls k1 _ _ l0 ((rd_T43 l0 x4_1).f0) t110 _ ?side1 ?side2 A7.out).mono ?_); (case side1 => repeat (first | exact (Kd.C_below HR0.out HB.out) | (with_reducible refine Kd.C_alloc ?_ _) | (with_reducible refine Kd.C_drewN ?_ _) | (with_reducible refine Kd.C_drew ?_))); (case side2 => exact HC0.out); rintro e w' ⟨rfl, ⟨nd, rfl⟩⟩; (try first | exact ⟨rfl, _, World.drewN_drewN _ _ _⟩ | exact ⟨rfl, _, Eq.trans (World.drewN_drewN _ _ _) (congrArg (World.drewN _) (Nat.add_assoc _ _ _))⟩)))
         repeat (go_quiet (first | ((with_reducible refine gate_dst (N := 5) rfl ?_); refine box_event ?hg (N := 5) ?hd (cs := #[.string (⟨#[]⟩ : ByteArray), .slice none 0 0]) (t := 43) ?hr ?_; (case hd => rfl); (case hg => rfl); (case hr => first | (go_simp; done) | (go_simp; rfl)); intro gb108 hg w14 hbox hb; have n0_ := Aside0.mk (below_step (by repeat (first | (with_reducible first | exact HB.out | apply below_alloc | apply pw_below_drewN | apply below_drew1) | exact HB.out)) hb); have n1_ := Aside0.mk (hbox); have n2_ := Aside0.mk ((by rw [hg]; exact (below_size (by repeat (first | (with_reducible first | exact HB.out | apply below_alloc | apply pw_below_drewN | apply below_drew1) | exact HB.out))) : w.heap.size ≤ gb108)); have n3_ := Aside0.mk ((by rw [hg]; exact (below_size (by repeat (first | (with_reducible first | exact HB.out | apply below_alloc | apply pw_below_drewN | apply below_drew1) | exact HB.out))) : w.heap.size ≤ gb108)); clear HB; have HB := n0_; have BK108 := n1_; have GW108 := n2_; have GE108 := n3_; clear n0_ n1_ n2_ n3_; clear hb hbox hg; have hcz15_0 : w14.cell? ⟨gb108, 0, none⟩ = some (.string (⟨#[]⟩ : ByteArray)) := (blk_cell BK108.out 0).trans rfl; have hcz15_1 : w14.cell? ⟨gb108, 1, none⟩ = some (.slice none 0 0) := (blk_cell BK108.out 1).trans rfl; have hfz15_0 := blk_frozen BK108.out 0; have hfz15_1 := blk_frozen BK108.out 1) | (go_at_call 70; (with_reducible refine (truantref02_Word.calls k1 ((rd_T43 l0 x4_1).f0) true _ A5.out).mono ?_); clear A5; rintro e w16 ⟨rfl, hb⟩; have n0_ := Aside0.mk (blk_below (g := gb108) (o := .cells #[.string ((rd_T43 l0 x4_1).f0), .slice A107_1 ((rd_T43 l0 x4_1).f1).length c107_1] 43 (0, 0)) (by (with_reducible repeat (first | refine blk_drewN ?_ _ | refine blk_drew ?_ | refine blk_alloc ?_ _)); refine blk_put (cs := #[.string ((rd_T43 l0 x4_1).f0), .slice none 0 0]) ?_ 1 _ rfl; (with_reducible repeat (first | refine blk_drewN ?_ _ | refine blk_drew ?_ | refine blk_alloc ?_ _)); refine blk_put (cs := #[.string (⟨#[]⟩ : ByteArray), .slice none 0 0]) ?_ 0 _ rfl; (with_reducible repeat (first | refine blk_drewN ?_ _ | refine blk_drew ?_ | refine blk_alloc ?_ _)); exact BK108.out) hb); have n1_ := Aside0.mk (below_step (by repeat (first | (with_reducible first | exact HB.out | apply below_alloc | apply pw_below_drewN | apply below_drew1 | refine below_set ?_ GE108.out) | exact HB.out)) hb); clear BK108; clear HB; have BK108 := n0_; have HB := n1_; clear n0_ n1_; (try clear hb); (try clear hb2); (try clear hk); (try clear hi); have hcz17_0 : w16.cell? ⟨gb108, 0, none⟩ = some (.string ((rd_T43 l0 x4_1).f0)) := (blk_cell BK108.out 0).trans rfl; have hcz17_1 : w16.cell? ⟨gb108, 1, none⟩ = some (.slice A107_1 ((rd_T43 l0 x4_1).f1).length c107_1) := (blk_cell BK108.out 1).trans rfl; have hfz17_0 := blk_frozen BK108.out 0; have hfz17_1 := blk_frozen BK108.out 1) | (go_at_call 19; (with_reducible refine (truantref03_Find.calls k1 _ _ l0 ((rd_T43 l0 x4_1).f0) t110 _ ?side1 ?side2 A7.out).mono ?_); clear A7; (case side1 => repeat (first | exact (Kd.C_below HR0.out HB.out) | (with_reducible refine Kd.C_alloc ?_ _) | (with_reducible refine Kd.C_drewN ?_ _) | (with_reducible refine Kd.C_drew ?_))); (case side2 => exact HC0.out); rintro e w' ⟨rfl, ⟨nd, rfl⟩⟩; (try first | exact ⟨rfl, _, World.drewN_drewN _ _ _⟩ | exact ⟨rfl, _, Eq.trans (World.drewN_drewN _ _ _) (congrArg (World.drewN _) (Nat.add_assoc _ _ _))⟩))); try go_wp2_with (first | ((with_reducible refine gate_dst (N := 5) rfl ?_); refine box_event ?hg (N := 5) ?hd (cs := #[.string (⟨#[]⟩ : ByteArray), .slice none 0 0]) (t := 43) ?hr ?_; (case hd => rfl); (case hg => rfl); (case hr => first | (go_simp; done) | (go_simp; rfl)); intro gb108 hg w14 hbox hb; have n0_ := Aside0.mk (below_step (by repeat (first | (with_reducible first | exact HB.out | apply below_alloc | apply pw_below_drewN | apply below_drew1) | exact HB.out)) hb); have n1_ := Aside0.mk (hbox); have n2_ := Aside0.mk ((by rw [hg]; exact (below_size (by repeat (first | (with_reducible first | exact HB.out | apply below_alloc | apply pw_below_drewN | apply below_drew1) | exact HB.out))) : w.heap.size ≤ gb108)); have n3_ := Aside0.mk ((by rw [hg]; exact (below_size (by repeat (first | (with_reducible first | exact HB.out | apply below_alloc | apply pw_below_drewN | apply below_drew1) | exact HB.out))) : w.heap.size ≤ gb108)); clear HB; have HB := n0_; have BK108 := n1_; have GW108 := n2_; have GE108 := n3_; clear n0_ n1_ n2_ n3_; clear hb hbox hg; have hcz15_0 : w14.cell? ⟨gb108, 0, none⟩ = some (.string (⟨#[]⟩ : ByteArray)) := (blk_cell BK108.out 0).trans rfl; have hcz15_1 : w14.cell? ⟨gb108, 1, none⟩ = some (.slice none 0 0) := (blk_cell BK108.out 1).trans rfl; have hfz15_0 := blk_frozen BK108.out 0; have hfz15_1 := blk_frozen BK108.out 1) | (go_at_call 70; (with_reducible refine (truantref02_Word.calls k1 ((rd_T43 l0 x4_1).f0) true _ A5.out).mono ?_); clear A5; rintro e w16 ⟨rfl, hb⟩; have n0_ := Aside0.mk (blk_below (g := gb108) (o := .cells #[.string ((rd_T43 l0 x4_1).f0), .slice A107_1 ((rd_T43 l0 x4_1).f1).length c107_1] 43 (0, 0)) (by (with_reducible repeat (first | refine blk_drewN ?_ _ | refine blk_drew ?_ | refine blk_alloc ?_ _)); refine blk_put (cs := #[.string ((rd_T43 l0 x4_1).f0), .slice none 0 0]) ?_ 1 _ rfl; (with_reducible repeat (first | refine blk_drewN ?_ _ | refine blk_drew ?_ | refine blk_alloc ?_ _)); refine blk_put (cs := #[.string (⟨#[]⟩ : ByteArray), .slice none 0 0]) ?_ 0 _ rfl; (with_reducible repeat (first | refine blk_drewN ?_ _ | refine blk_drew ?_ | refine blk_alloc ?_ _)); exact BK108.out) hb); have n1_ := Aside0.mk (below_step (by repeat (first | (with_reducible first | exact HB.out | apply below_alloc | apply pw_below_drewN | apply below_drew1 | refine below_set ?_ GE108.out) | exact HB.out)) hb); clear BK108; clear HB; have BK108 := n0_; have HB := n1_; clear n0_ n1_; (try clear hb); (try clear hb2); (try clear hk); (try clear hi); have hcz17_0 : w16.cell? ⟨gb108, 0, none⟩ = some (.string ((rd_T43 l0 x4_1).f0)) := (blk_cell BK108.out 0).trans rfl; have hcz17_1 : w16.cell? ⟨gb108, 1, none⟩ = some (.slice A107_1 ((rd_T43 l0 x4_1).f1).length c107_1) := (blk_cell BK108.out 1).trans rfl; have hfz17_0 := blk_frozen BK108.out 0; have hfz17_1 := blk_frozen BK108.out 1) | (go_at_call 19; (with_reducible refine (truantref03_Find.calls k1 _ _ l0 ((rd_T43 l0 x4_1).f0) t110 _ ?side1 ?side2 A7.out).mono ?_); clear A7; (case side1 => repeat (first | exact (Kd.C_below HR0.out HB.out) | (with_reducible refine Kd.C_alloc ?_ _) | (with_reducible refine Kd.C_drewN ?_ _) | (with_reducible refine Kd.C_drew ?_))); (case side2 => exact HC0.out); rintro e w' ⟨rfl, ⟨nd, rfl⟩⟩; (try first | exact ⟨rfl, _, World.drewN_drewN _ _ _⟩ | exact ⟨rfl, _, Eq.trans (World.drewN_drewN _ _ _) (congrArg (World.drewN _) (Nat.add_assoc _ _ _))⟩))))
         go_ret2
         exact ⟨by first | rfl | (simp [errW_none, errW_some] <;> rfl) | (simp [*, errW_none, errW_some] <;> rfl), by repeat (first | (with_reducible first | exact HB.out | apply below_alloc | apply pw_below_drewN | apply below_drew1 | refine below_set ?_ GE108.out) | exact HB.out)⟩
        ·rw [if_neg c13] at H
         have c13b0 : decide (8 < (((rd_T43 l0 x4_1).f1).length : Int)) = false := decide_eq_false c13
         have c13b1 : decide (8 < ((rd_T43 l0 x4_1).f1).length) = false := decide_eq_false (by omega)
         clear c13
         have H' := Aside0.mk H
         clear H
         have p107 : 0 ≤ (x4_1 : Int) := of_decide_eq_true (by first | (with_reducible assumption) | assumption)
         have q107 : x4_1 < (l0.length : Int) := of_decide_eq_true (by first | (with_reducible assumption) | assumption)
         obtain ⟨ad107, A107_1, c107_1, e107, hx107_0, hx107_1, hl107_1, hi107_1⟩ := at_T43 HR0.out x4_1 p107 q107
         cases e107
         replace hx107_0 := (HB.out.cell (World.block_lt_of_cell? w _ hx107_0)).trans hx107_0
         replace hx107_1 := (HB.out.cell (World.block_lt_of_cell? w _ hx107_1)).trans hx107_1
         have HR107_1 := Aside0.mk hi107_1
         have HC107_1 := Aside0.mk hl107_1
         clear hi107_1 hl107_1
         replace p107 := eq_true p107
         replace q107 := eq_true q107
         go_wp2_with (first | ((with_reducible refine gate_dst (N := 5) rfl ?_); refine box_event ?hg (N := 5) ?hd (cs := #[.string (⟨#[]⟩ : ByteArray), .slice none 0 0]) (t := 43) ?hr ?_; (case hd => rfl); (case hg => rfl); (case hr => first | (go_simp; done) | (go_simp; rfl)); intro gb108 hg w18 hbox hb; have n0_ := Aside0.mk (below_step (by repeat (first | (with_reducible first | exact HB.out | apply below_alloc | apply pw_below_drewN | apply below_drew1) | exact HB.out)) hb); have n1_ := Aside0.mk (hbox); have n2_ := Aside0.mk ((by rw [hg]; exact (below_size (by repeat (first | (with_reducible first | exact HB.out | apply below_alloc | apply pw_below_drewN | apply below_drew1) | exact HB.out))) : w.heap.size ≤ gb108)); have n3_ := Aside0.mk ((by rw [hg]; exact (below_size (by repeat (first | (with_reducible first | exact HB.out | apply below_alloc | apply pw_below_drewN | apply below_drew1) | exact HB.out))) : w.heap.size ≤ gb108)); clear HB; have HB := n0_; have BK108 := n1_; have GW108 := n2_; have GE108 := n3_; clear n0_ n1_ n2_ n3_; clear hb hbox hg; have hcz19_0 : w18.cell? ⟨gb108, 0, none⟩ = some (.string (⟨#[]⟩ : ByteArray)) := (blk_cell BK108.out 0).trans rfl; have hcz19_1 : w18.cell? ⟨gb108, 1, none⟩ = some (.slice none 0 0) := (blk_cell BK108.out 1).trans rfl; have hfz19_0 := blk_frozen BK108.out 0; have hfz19_1 := blk_frozen BK108.out 1) | (go_at_call 70; (with_reducible refine (truantref02_Word.calls k1 ((rd_T43 l0 x4_1).f0) true _ A5.out).mono ?_); rintro e w20 ⟨rfl, hb⟩; have n0_ := Aside0.mk (blk_below (g := gb108) (o := .cells #[.string ((rd_T43 l0 x4_1).f0), .slice A107_1 ((rd_T43 l0 x4_1).f1).length c107_1] 43 (0, 0)) (by (with_reducible repeat (first | refine blk_drewN ?_ _ | refine blk_drew ?_ | refine blk_alloc ?_ _)); refine blk_put (cs := #[.string ((rd_T43 l0 x4_1).f0), .slice none 0 0]) ?_ 1 _ rfl; (with_reducible repeat (first | refine blk_drewN ?_ _ | refine blk_drew ?_ | refine blk_alloc ?_ _)); refine blk_put (cs := #[.string (⟨#[]⟩ : ByteArray), .slice none 0 0]) ?_ 0 _ rfl; (with_reducible repeat (first | refine blk_drewN ?_ _ | refine blk_drew ?_ | refine blk_alloc ?_ _)); exact BK108.out) hb); have n1_ := Aside0.mk (below_step (by repeat (first | (with_reducible first | exact HB.out | apply below_alloc | apply pw_below_drewN | apply below_drew1 | refine below_set ?_ GE108.out) | exact HB.out)) hb); clear BK108; clear HB; have BK108 := n0_; have HB := n1_; clear n0_ n1_; (try clear hb); (try clear hb2); (try clear hk); (try clear hi); have hcz21_0 : w20.cell? ⟨gb108, 0, none⟩ = some (.string ((rd_T43 l0 x4_1).f0)) := (blk_cell BK108.out 0).trans rfl; have hcz21_1 : w20.cell? ⟨gb108, 1, none⟩ = some (.slice A107_1 ((rd_T43 l0 x4_1).f1).length c107_1) := (blk_cell BK108.out 1).trans rfl; have hfz21_0 := blk_frozen BK108.out 0; have hfz21_1 := blk_frozen BK108.out 1) | (go_at_call 19; (with_reducible refine (truantref03_Find.calls k1 _ _ l0 ((rd_T43 l0 x4_1).f0) t110 _ ?side1 ?side2 A7.out).mono ?_); (case side1 => repeat (first | exact (Kd.C_below HR0.out HB.out) | (with_reducible refine Kd.C_alloc ?_ _) | (with_reducible refine Kd.C_drewN ?_ _) | (with_reducible refine Kd.C_drew ?_))); (case side2 => exact HC0.out); rintro e w' ⟨rfl, ⟨nd, rfl⟩⟩; (try first | exact ⟨rfl, _, World.drewN_drewN _ _ _⟩ | exact ⟨rfl, _, Eq.trans (World.drewN_drewN _ _ _) (congrArg (World.drewN _) (Nat.add_assoc _ _ _))⟩)))
         repeat (go_quiet (first | ((with_reducible refine gate_dst (N := 5) rfl ?_); refine box_event ?hg (N := 5) ?hd (cs := #[.string (⟨#[]⟩ : ByteArray), .slice none 0 0]) (t := 43) ?hr ?_; (case hd => rfl); (case hg => rfl); (case hr => first | (go_simp; done) | (go_simp; rfl)); intro gb108 hg w18 hbox hb; have n0_ := Aside0.mk (below_step (by repeat (first | (with_reducible first | exact HB.out | apply below_alloc | apply pw_below_drewN | apply below_drew1) | exact HB.out)) hb); have n1_ := Aside0.mk (hbox); have n2_ := Aside0.mk ((by rw [hg]; exact (below_size (by repeat (first | (with_reducible first | exact HB.out | apply below_alloc | apply pw_below_drewN | apply below_drew1) | exact HB.out))) : w.heap.size ≤ gb108)); have n3_ := Aside0.mk ((by rw [hg]; exact (below_size (by repeat (first | (with_reducible first | exact HB.out | apply below_alloc | apply pw_below_drewN | apply below_drew1) | exact HB.out))) : w.heap.size ≤ gb108)); clear HB; have HB := n0_; have BK108 := n1_; have GW108 := n2_; have GE108 := n3_; clear n0_ n1_ n2_ n3_; clear hb hbox hg; have hcz19_0 : w18.cell? ⟨gb108, 0, none⟩ = some (.string (⟨#[]⟩ : ByteArray)) := (blk_cell BK108.out 0).trans rfl; have hcz19_1 : w18.cell? ⟨gb108, 1, none⟩ = some (.slice none 0 0) := (blk_cell BK108.out 1).trans rfl; have hfz19_0 := blk_frozen BK108.out 0; have hfz19_1 := blk_frozen BK108.out 1) | (go_at_call 70; (with_reducible refine (truantref02_Word.calls k1 ((rd_T43 l0 x4_1).f0) true _ A5.out).mono ?_); clear A5; rintro e w20 ⟨rfl, hb⟩; have n0_ := Aside0.mk (blk_below (g := gb108) (o := .cells #[.string ((rd_T43 l0 x4_1).f0), .slice A107_1 ((rd_T43 l0 x4_1).f1).length c107_1] 43 (0, 0)) (by (with_reducible repeat (first | refine blk_drewN ?_ _ | refine blk_drew ?_ | refine blk_alloc ?_ _)); refine blk_put (cs := #[.string ((rd_T43 l0 x4_1).f0), .slice none 0 0]) ?_ 1 _ rfl; (with_reducible repeat (first | refine blk_drewN ?_ _ | refine blk_drew ?_ | refine blk_alloc ?_ _)); refine blk_put (cs := #[.string (⟨#[]⟩ : ByteArray), .slice none 0 0]) ?_ 0 _ rfl; (with_reducible repeat (first | refine blk_drewN ?_ _ | refine blk_drew ?_ | refine blk_alloc ?_ _)); exact BK108.out) hb); have n1_ := Aside0.mk (below_step (by repeat (first | (with_reducible first | exact HB.out | apply below_alloc | apply pw_below_drewN | apply below_drew1 | refine below_set ?_ GE108.out) | exact HB.out)) hb); clear BK108; clear HB; have BK108 := n0_; have HB := n1_; clear n0_ n1_; (try clear hb); (try clear hb2); (try clear hk); (try clear hi); have hcz21_0 : w20.cell? ⟨gb108, 0, none⟩ = some (.string ((rd_T43 l0 x4_1).f0)) := (blk_cell BK108.out 0).trans rfl; have hcz21_1 : w20.cell? ⟨gb108, 1, none⟩ = some (.slice A107_1 ((rd_T43 l0 x4_1).f1).length c107_1) := (blk_cell BK108.out 1).trans rfl; have hfz21_0 := blk_frozen BK108.out 0; have hfz21_1 := blk_frozen BK108.out 1) | (go_at_call 19; (with_reducible refine (truantref03_Find.calls k1 _ _ l0 ((rd_T43 l0 x4_1).f0) t110 _ ?side1 ?side2 A7.out).mono ?_); clear A7; (case side1 => repeat (first | exact (Kd.C_below HR0.out HB.out) | (with_reducible refine Kd.C_alloc ?_ _) | (with_reducible refine Kd.C_drewN ?_ _) | (with_reducible refine Kd.C_drew ?_))); (case side2 => exact HC0.out); rintro e w' ⟨rfl, ⟨nd, rfl⟩⟩; (try first | exact ⟨rfl, _, World.drewN_drewN _ _ _⟩ | exact ⟨rfl, _, Eq.trans (World.drewN_drewN _ _ _) (congrArg (World.drewN _) (Nat.add_assoc _ _ _))⟩))); try go_wp2_with (first | ((with_reducible refine gate_dst (N := 5) rfl ?_); refine box_event ?hg (N := 5) ?hd (cs := #[.string (⟨#[]⟩ : ByteArray), .slice none 0 0]) (t := 43) ?hr ?_; (case hd => rfl); (case hg => rfl); (case hr => first | (go_simp; done) | (go_simp; rfl)); intro gb108 hg w18 hbox hb; have n0_ := Aside0.mk (below_step (by repeat (first | (with_reducible first | exact HB.out | apply below_alloc | apply pw_below_drewN | apply below_drew1) | exact HB.out)) hb); have n1_ := Aside0.mk (hbox); have n2_ := Aside0.mk ((by rw [hg]; exact (below_size (by repeat (first | (with_reducible first | exact HB.out | apply below_alloc | apply pw_below_drewN | apply below_drew1) | exact HB.out))) : w.heap.size ≤ gb108)); have n3_ := Aside0.mk ((by rw [hg]; exact (below_size (by repeat (first | (with_reducible first | exact HB.out | apply below_alloc | apply pw_below_drewN | apply below_drew1) | exact HB.out))) : w.heap.size ≤ gb108)); clear HB; have HB := n0_; have BK108 := n1_; have GW108 := n2_; have GE108 := n3_; clear n0_ n1_ n2_ n3_; clear hb hbox hg; have hcz19_0 : w18.cell? ⟨gb108, 0, none⟩ = some (.string (⟨#[]⟩ : ByteArray)) := (blk_cell BK108.out 0).trans rfl; have hcz19_1 : w18.cell? ⟨gb108, 1, none⟩ = some (.slice none 0 0) := (blk_cell BK108.out 1).trans rfl; have hfz19_0 := blk_frozen BK108.out 0; have hfz19_1 := blk_frozen BK108.out 1) | (go_at_call 70; (with_reducible refine (truantref02_Word.calls k1 ((rd_T43 l0 x4_1).f0) true _ A5.out).mono ?_); clear A5; rintro e w20 ⟨rfl, hb⟩; have n0_ := Aside0.mk (blk_below (g := gb108) (o := .cells #[.string ((rd_T43 l0 x4_1).f0), .slice A107_1 ((rd_T43 l0 x4_1).f1).length c107_1] 43 (0, 0)) (by (with_reducible repeat (first | refine blk_drewN ?_ _ | refine blk_drew ?_ | refine blk_alloc ?_ _)); refine blk_put (cs := #[.string ((rd_T43 l0 x4_1).f0), .slice none 0 0]) ?_ 1 _ rfl; (with_reducible repeat (first | refine blk_drewN ?_ _ | refine blk_drew ?_ | refine blk_alloc ?_ _)); refine blk_put (cs := #[.string (⟨#[]⟩ : ByteArray), .slice none 0 0]) ?_ 0 _ rfl; (with_reducible repeat (first | refine blk_drewN ?_ _ | refine blk_drew ?_ | refine blk_alloc ?_ _)); exact BK108.out) hb); have n1_ := Aside0.mk (below_step (by repeat (first | (with_reducible first | exact HB.out | apply below_alloc | apply pw_below_drewN | apply below_drew1 | refine below_set ?_ GE108.out) | exact HB.out)) hb); clear BK108; clear HB; have BK108 := n0_; have HB := n1_; clear n0_ n1_; (try clear hb); (try clear hb2); (try clear hk); (try clear hi); have hcz21_0 : w20.cell? ⟨gb108, 0, none⟩ = some (.string ((rd_T43 l0 x4_1).f0)) := (blk_cell BK108.out 0).trans rfl; have hcz21_1 : w20.cell? ⟨gb108, 1, none⟩ = some (.slice A107_1 ((rd_T43 l0 x4_1).f1).length c107_1) := (blk_cell BK108.out 1).trans rfl; have hfz21_0 := blk_frozen BK108.out 0; have hfz21_1 := blk_frozen BK108.out 1) | (go_at_call 19; (with_reducible refine (truantref03_Find.calls k1 _ _ l0 ((rd_T43 l0 x4_1).f0) t110 _ ?side1 ?side2 A7.out).mono ?_); clear A7; (case side1 => repeat (first | exact (Kd.C_below HR0.out HB.out) | (with_reducible refine Kd.C_alloc ?_ _) | (with_reducible refine Kd.C_drewN ?_ _) | (with_reducible refine Kd.C_drew ?_))); (case side2 => exact HC0.out); rintro e w' ⟨rfl, ⟨nd, rfl⟩⟩; (try first | exact ⟨rfl, _, World.drewN_drewN _ _ _⟩ | exact ⟨rfl, _, Eq.trans (World.drewN_drewN _ _ _) (congrArg (World.drewN _) (Nat.add_assoc _ _ _))⟩))))
         go_loopg [6] k1 (fun kq v6 w' => ∃ (x6_2 : Int), v6 = .int .i64 x6_2 ∧ Aside0 (truantref03_Check.l1 kq l0 x4_1 x6_2 ((rd_T43 l0 x4_1).f0) ((rd_T43 l0 x4_1).f1) = some (r1, r2)) ∧ Aside0 (kq ≤ k1) ∧ Aside0 (w'.heap[gb108]? = some (.cells #[.string ((rd_T43 l0 x4_1).f0), (.slice A107_1 ((rd_T43 l0 x4_1).f1).length c107_1)] 43 (0, 0))) ∧ Aside0 (Below w.heap.size w w'))
         case atStart => exact ⟨(0), (by first | rfl | (simp; done) | (simp [*]; done)), H', ⟨Nat.le_refl _⟩, ⟨by (with_reducible repeat (first | refine blk_drewN ?_ _ | refine blk_drew ?_ | refine blk_alloc ?_ _)); exact BK108.out⟩, ⟨by repeat (first | (with_reducible first | exact HB.out | apply below_alloc | apply pw_below_drewN | apply below_drew1 | refine below_set ?_ GE108.out) | exact HB.out)⟩⟩
         case round =>
          clear H'
          try clear c1
          try clear p1
          try clear q1
          try clear hx1
          try clear c2
          try clear c2b0
          try clear c2b1
          try clear p2
          try clear c3
          try clear c3b0
          try clear c4
          try clear c4b0
          try clear c6
          try clear c8
          try clear c8b0
          try clear c10
          try clear p10
          try clear q10
          try clear hx10
          try clear c13
          try clear c13b0
          try clear c13b1
          try clear c16
          try clear hcz10_0
          try clear hcz10_1
          try clear hcz12_0
          try clear hcz12_1
          try clear hcz15_0
          try clear hcz15_1
          try clear hcz17_0
          try clear hcz17_1
          try clear hcz19_0
          try clear hcz19_1
          try clear hcz21_0
          try clear hcz21_1
          try clear hfz10_0
          try clear hfz10_1
          try clear hfz12_0
          try clear hfz12_1
          try clear hfz15_0
          try clear hfz15_1
          try clear hfz17_0
          try clear hfz17_1
          try clear hfz19_0
          try clear hfz19_1
          try clear hfz21_0
          try clear hfz21_1
          try clear hx107_0
          try clear hx107_1
          try clear p107
          try clear p2
          try clear q107
          obtain ⟨x6_2, rfl, HA, HK2, BK108, HB⟩ := hrel
          cases gk with
          | zero => exact absurd HA.out (by simp [truantref03_Check.l1])
          | succ k2 =>
           have H := HA.out
           clear HA
           simp only [truantref03_Check.l1] at H
           by_cases c22 : x6_2 < (((rd_T43 l0 x4_1).f1).length : Int)
           ·rw [if_pos c22] at H
            have c22b0 : decide (x6_2 < (((rd_T43 l0 x4_1).f1).length : Int)) = true := decide_eq_true c22
            clear c22
            by_cases c23 : 0 ≤ x6_2
            ·rw [if_pos c23] at H
             have c23b0 : decide (0 ≤ x6_2) = true := decide_eq_true c23
             clear c23
             replace H := Option.bind_eq_some_iff.mp H
             obtain ⟨t112, A240, H⟩ := H
             replace H : (if t112 = true then (truantref03_Check.l2 k2 l0 x4_1 x6_2 0 ((rd_T43 l0 x4_1).f0) ((rd_T43 l0 x4_1).f1)) else (some (x4_1, 1))) = some (r1, r2) := H
             have A24 := Aside0.mk A240
             clear A240
             by_cases c25 : t112 = true
             ·subst c25
              have H1 : (truantref03_Check.l2 k2 l0 x4_1 x6_2 0 ((rd_T43 l0 x4_1).f0) ((rd_T43 l0 x4_1).f1)) = some (r1, r2) := by rw [if_pos rfl] at H; exact H
              clear H
              have H := H1
              clear H1
              have H' := Aside0.mk H
              clear H
              have hcz26_0 : wr.cell? ⟨gb108, 0, none⟩ = some (.string ((rd_T43 l0 x4_1).f0)) := (blk_cell BK108.out 0).trans rfl
              have hcz26_1 : wr.cell? ⟨gb108, 1, none⟩ = some (.slice A107_1 ((rd_T43 l0 x4_1).f1).length c107_1) := (blk_cell BK108.out 1).trans rfl
              have hfz26_0 := blk_frozen BK108.out 0
              have hfz26_1 := blk_frozen BK108.out 1
              have p111 : 0 ≤ (x6_2 : Int) := of_decide_eq_true (by first | (with_reducible assumption) | assumption)
              have q111 : x6_2 < (((rd_T43 l0 x4_1).f1).length : Int) := of_decide_eq_true (by first | (with_reducible assumption) | assumption)
              obtain ⟨ad111, e111, hx111_0, hx111_1⟩ := at_T48 HR107_1.out x6_2 p111 q111
              cases e111
              replace hx111_0 := (HB.out.cell (World.block_lt_of_cell? w _ hx111_0)).trans hx111_0
              replace hx111_1 := (HB.out.cell (World.block_lt_of_cell? w _ hx111_1)).trans hx111_1
              replace p111 := eq_true p111
              replace q111 := eq_true q111
              go_wp2_with (first | (go_at_call 70; (with_reducible refine (truantref02_Word.calls k2 ((rd_T48 ((rd_T43 l0 x4_1).f1) x6_2).f0) true _ A24.out).mono ?_); rintro e w27 ⟨rfl, hb⟩; have n0_ := Aside0.mk (blk_below (g := gb108) (o := .cells #[.string ((rd_T43 l0 x4_1).f0), .slice (some ad111) ((rd_T43 l0 x4_1).f1).length c107_1] 43 (0, 0)) (by (with_reducible repeat (first | refine blk_drewN ?_ _ | refine blk_drew ?_ | refine blk_alloc ?_ _)); exact BK108.out) hb); have n1_ := Aside0.mk (below_step (by repeat (first | (with_reducible first | exact HB.out | apply below_alloc | apply pw_below_drewN | apply below_drew1 | refine below_set ?_ GE108.out) | exact HB.out)) hb); clear BK108; clear HB; have BK108 := n0_; have HB := n1_; clear n0_ n1_; (try clear hb); (try clear hb2); (try clear hk); (try clear hi)))
              repeat (go_quiet (first | (go_at_call 70; (with_reducible refine (truantref02_Word.calls k2 ((rd_T48 ((rd_T43 l0 x4_1).f1) x6_2).f0) true _ A24.out).mono ?_); clear A24; rintro e w27 ⟨rfl, hb⟩; have n0_ := Aside0.mk (blk_below (g := gb108) (o := .cells #[.string ((rd_T43 l0 x4_1).f0), .slice (some ad111) ((rd_T43 l0 x4_1).f1).length c107_1] 43 (0, 0)) (by (with_reducible repeat (first | refine blk_drewN ?_ _ | refine blk_drew ?_ | refine blk_alloc ?_ _)); exact BK108.out) hb); have n1_ := Aside0.mk (below_step (by repeat (first | (with_reducible first | exact HB.out | apply below_alloc | apply pw_below_drewN | apply below_drew1 | refine below_set ?_ GE108.out) | exact HB.out)) hb); clear BK108; clear HB; have BK108 := n0_; have HB := n1_; clear n0_ n1_; (try clear hb); (try clear hb2); (try clear hk); (try clear hi))); try go_wp2_with (first | (go_at_call 70; (with_reducible refine (truantref02_Word.calls k2 ((rd_T48 ((rd_T43 l0 x4_1).f1) x6_2).f0) true _ A24.out).mono ?_); clear A24; rintro e w27 ⟨rfl, hb⟩; have n0_ := Aside0.mk (blk_below (g := gb108) (o := .cells #[.string ((rd_T43 l0 x4_1).f0), .slice (some ad111) ((rd_T43 l0 x4_1).f1).length c107_1] 43 (0, 0)) (by (with_reducible repeat (first | refine blk_drewN ?_ _ | refine blk_drew ?_ | refine blk_alloc ?_ _)); exact BK108.out) hb); have n1_ := Aside0.mk (below_step (by repeat (first | (with_reducible first | exact HB.out | apply below_alloc | apply pw_below_drewN | apply below_drew1 | refine below_set ?_ GE108.out) | exact HB.out)) hb); clear BK108; clear HB; have BK108 := n0_; have HB := n1_; clear n0_ n1_; (try clear hb); (try clear hb2); (try clear hk); (try clear hi))))
              go_loopg [7] k2 (fun kq v7 w' => ∃ (x7_3 : Int), v7 = .int .i64 x7_3 ∧ Aside0 (truantref03_Check.l2 kq l0 x4_1 x6_2 x7_3 ((rd_T43 l0 x4_1).f0) ((rd_T43 l0 x4_1).f1) = some (r1, r2)) ∧ Aside0 (kq ≤ k2) ∧ Aside0 (w'.heap[gb108]? = some (.cells #[.string ((rd_T43 l0 x4_1).f0), (.slice (some ad111) ((rd_T43 l0 x4_1).f1).length c107_1)] 43 (0, 0))) ∧ Aside0 (Below w.heap.size w w'))
              case atStart => exact ⟨(0), (by first | rfl | (simp; done) | (simp [*]; done)), H', ⟨Nat.le_refl _⟩, ⟨by (with_reducible repeat (first | refine blk_drewN ?_ _ | refine blk_drew ?_ | refine blk_alloc ?_ _)); exact BK108.out⟩, ⟨by repeat (first | (with_reducible first | exact HB.out | apply below_alloc | apply pw_below_drewN | apply below_drew1 | refine below_set ?_ GE108.out) | exact HB.out)⟩⟩
              case round =>
               clear H'
               try clear c1
               try clear p1
               try clear q1
               try clear hx1
               try clear c2
               try clear c2b0
               try clear c2b1
               try clear p2
               try clear c3
               try clear c3b0
               try clear c4
               try clear c4b0
               try clear c6
               try clear c8
               try clear c8b0
               try clear c10
               try clear p10
               try clear q10
               try clear hx10
               try clear p11
               try clear q11
               try clear hx11
               try clear c13
               try clear c13b0
               try clear c13b1
               try clear c16
               try clear c22
               try clear c22b0
               try clear c23
               try clear c23b0
               try clear c25
               try clear hcz10_0
               try clear hcz10_1
               try clear hcz12_0
               try clear hcz12_1
               try clear hcz15_0
               try clear hcz15_1
               try clear hcz17_0
               try clear hcz17_1
               try clear hcz19_0
               try clear hcz19_1
               try clear hcz21_0
               try clear hcz21_1
               try clear hcz26_0
               try clear hcz26_1
               try clear hfz10_0
               try clear hfz10_1
               try clear hfz12_0
               try clear hfz12_1
               try clear hfz15_0
               try clear hfz15_1
               try clear hfz17_0
               try clear hfz17_1
               try clear hfz19_0
               try clear hfz19_1
               try clear hfz21_0
               try clear hfz21_1
               try clear hfz26_0
               try clear hfz26_1
               try clear hx107_0
               try clear hx107_1
               try clear hx111_0
               try clear hx111_1
               try clear p1
               try clear p10
               try clear p107
               try clear p111
               try clear p2
               try clear q1
               try clear q10
               try clear q107
               try clear q111
               obtain ⟨x7_3, rfl, HA, HK3, BK108, HB⟩ := hrel
               cases gk with
               | zero => exact absurd HA.out (by simp [truantref03_Check.l2])
               | succ k3 =>
                have H := HA.out
                clear HA
                simp only [truantref03_Check.l2] at H
                by_cases c28 : x7_3 < x6_2
                ·rw [if_pos c28] at H
                 have c28b0 : decide (x7_3 < x6_2) = true := decide_eq_true c28
                 clear c28
                 by_cases c29 : 0 ≤ x7_3
                 ·rw [if_pos c29] at H
                  have c29b0 : decide (0 ≤ x7_3) = true := decide_eq_true c29
                  clear c29
                  by_cases c30 : x7_3 < (((rd_T43 l0 x4_1).f1).length : Int)
                  ·rw [if_pos c30] at H
                   have c30b0 : decide (x7_3 < (((rd_T43 l0 x4_1).f1).length : Int)) = true := decide_eq_true c30
                   clear c30
                   by_cases c31 : 0 ≤ x6_2
                   ·rw [if_pos c31] at H
                    have c31b0 : decide (0 ≤ x6_2) = true := decide_eq_true c31
                    clear c31
                    by_cases c32 : x6_2 < (((rd_T43 l0 x4_1).f1).length : Int)
                    ·rw [if_pos c32] at H
                     have c32b0 : decide (x6_2 < (((rd_T43 l0 x4_1).f1).length : Int)) = true := decide_eq_true c32
                     clear c32
                     by_cases c33 : ((rd_T48 ((rd_T43 l0 x4_1).f1) x7_3).f0).toList = ((rd_T48 ((rd_T43 l0 x4_1).f1) x6_2).f0).toList
                     ·rw [if_pos c33] at H
                      have c33b0 : (((rd_T48 ((rd_T43 l0 x4_1).f1) x7_3).f0).toList == ((rd_T48 ((rd_T43 l0 x4_1).f1) x6_2).f0).toList) = true := beq_iff_eq.mpr c33
                      have c33b1 : (((rd_T48 ((rd_T43 l0 x4_1).f1) x7_3).f0).toList != ((rd_T48 ((rd_T43 l0 x4_1).f1) x6_2).f0).toList) = false := bne_eq_false_iff_eq.mpr c33
                      clear c33
                      simp only [Option.some.injEq, Prod.mk.injEq] at H
                      obtain ⟨rfl, rfl⟩ := H
                      have hcz34_0 : wr.cell? ⟨gb108, 0, none⟩ = some (.string ((rd_T43 l0 x4_1).f0)) := (blk_cell BK108.out 0).trans rfl
                      have hcz34_1 : wr.cell? ⟨gb108, 1, none⟩ = some (.slice (some ad111) ((rd_T43 l0 x4_1).f1).length c107_1) := (blk_cell BK108.out 1).trans rfl
                      have hfz34_0 := blk_frozen BK108.out 0
                      have hfz34_1 := blk_frozen BK108.out 1
                      have p113 : 0 ≤ (x7_3 : Int) := of_decide_eq_true (by first | (with_reducible assumption) | assumption)
                      have q113 : x7_3 < (((rd_T43 l0 x4_1).f1).length : Int) := of_decide_eq_true (by first | (with_reducible assumption) | assumption)
                      obtain ⟨ad113, e113, hx113_0, hx113_1⟩ := at_T48 HR107_1.out x7_3 p113 q113
                      obtain rfl : ad111 = ad113 := (by injection e113)
                      replace hx113_0 := (HB.out.cell (World.block_lt_of_cell? w _ hx113_0)).trans hx113_0
                      replace hx113_1 := (HB.out.cell (World.block_lt_of_cell? w _ hx113_1)).trans hx113_1
                      replace p113 := eq_true p113
                      replace q113 := eq_true q113
                      have p114 : 0 ≤ (x6_2 : Int) := of_decide_eq_true (by first | (with_reducible assumption) | assumption)
                      have q114 : x6_2 < (((rd_T43 l0 x4_1).f1).length : Int) := of_decide_eq_true (by first | (with_reducible assumption) | assumption)
                      obtain ⟨ad114, e114, hx114_0, hx114_1⟩ := at_T48 HR107_1.out x6_2 p114 q114
                      obtain rfl : ad111 = ad114 := (by injection e114)
                      replace hx114_0 := (HB.out.cell (World.block_lt_of_cell? w _ hx114_0)).trans hx114_0
                      replace hx114_1 := (HB.out.cell (World.block_lt_of_cell? w _ hx114_1)).trans hx114_1
                      replace p114 := eq_true p114
                      replace q114 := eq_true q114
                      go_wp2
                      repeat (go_quiet (fail); try go_wp2)
                      go_ret2
                      exact ⟨by first | rfl | (simp [errW_none, errW_some] <;> rfl) | (simp [*, errW_none, errW_some] <;> rfl), by repeat (first | (with_reducible first | exact HB.out | apply below_alloc | apply pw_below_drewN | apply below_drew1 | refine below_set ?_ GE108.out) | exact HB.out)⟩
                     ·rw [if_neg c33] at H
                      have c33b0 : (((rd_T48 ((rd_T43 l0 x4_1).f1) x7_3).f0).toList == ((rd_T48 ((rd_T43 l0 x4_1).f1) x6_2).f0).toList) = false := beq_eq_false_iff_ne.mpr c33
                      have c33b1 : (((rd_T48 ((rd_T43 l0 x4_1).f1) x7_3).f0).toList != ((rd_T48 ((rd_T43 l0 x4_1).f1) x6_2).f0).toList) = true := bne_iff_ne.mpr c33
                      have H' := Aside0.mk H
                      clear H
                      have hcz35_0 : wr.cell? ⟨gb108, 0, none⟩ = some (.string ((rd_T43 l0 x4_1).f0)) := (blk_cell BK108.out 0).trans rfl
                      have hcz35_1 : wr.cell? ⟨gb108, 1, none⟩ = some (.slice (some ad111) ((rd_T43 l0 x4_1).f1).length c107_1) := (blk_cell BK108.out 1).trans rfl
                      have hfz35_0 := blk_frozen BK108.out 0
                      have hfz35_1 := blk_frozen BK108.out 1
                      have p113 : 0 ≤ (x7_3 : Int) := of_decide_eq_true (by first | (with_reducible assumption) | assumption)
                      have q113 : x7_3 < (((rd_T43 l0 x4_1).f1).length : Int) := of_decide_eq_true (by first | (with_reducible assumption) | assumption)
                      obtain ⟨ad113, e113, hx113_0, hx113_1⟩ := at_T48 HR107_1.out x7_3 p113 q113
                      obtain rfl : ad111 = ad113 := (by injection e113)
                      replace hx113_0 := (HB.out.cell (World.block_lt_of_cell? w _ hx113_0)).trans hx113_0
                      replace hx113_1 := (HB.out.cell (World.block_lt_of_cell? w _ hx113_1)).trans hx113_1
                      replace p113 := eq_true p113
                      replace q113 := eq_true q113
                      have p114 : 0 ≤ (x6_2 : Int) := of_decide_eq_true (by first | (with_reducible assumption) | assumption)
                      have q114 : x6_2 < (((rd_T43 l0 x4_1).f1).length : Int) := of_decide_eq_true (by first | (with_reducible assumption) | assumption)
                      obtain ⟨ad114, e114, hx114_0, hx114_1⟩ := at_T48 HR107_1.out x6_2 p114 q114
                      obtain rfl : ad111 = ad114 := (by injection e114)
                      replace hx114_0 := (HB.out.cell (World.block_lt_of_cell? w _ hx114_0)).trans hx114_0
                      replace hx114_1 := (HB.out.cell (World.block_lt_of_cell? w _ hx114_1)).trans hx114_1
                      replace p114 := eq_true p114
                      replace q114 := eq_true q114
                      go_wp2
                      repeat (go_quiet (fail); try go_wp2)
                      go_roundg k3
                      case measure => have := HK1.out; have := HK2.out; have := HK3.out; omega
                      case rel => exact ⟨(wrap64 (x7_3 + 1)), (by first | rfl | (simp; done) | (simp [*]; done)), H', ⟨by have := HK1.out; have := HK2.out; have := HK3.out; omega⟩, ⟨by (with_reducible repeat (first | refine blk_drewN ?_ _ | refine blk_drew ?_ | refine blk_alloc ?_ _)); exact BK108.out⟩, ⟨by repeat (first | (with_reducible first | exact HB.out | apply below_alloc | apply pw_below_drewN | apply below_drew1 | refine below_set ?_ GE108.out) | exact HB.out)⟩⟩
                    ·rw [if_neg c32] at H
                     exact absurd H (by simp)
                   ·rw [if_neg c31] at H
                    exact absurd H (by simp)
                  ·rw [if_neg c30] at H
                   exact absurd H (by simp)
                 ·rw [if_neg c29] at H
                  exact absurd H (by simp)
                ·rw [if_neg c28] at H
                 have c28b0 : decide (x7_3 < x6_2) = false := decide_eq_false c28
                 clear c28
                 by_cases c36 : 0 ≤ x6_2
                 ·rw [if_pos c36] at H
                  have c36b0 : decide (0 ≤ x6_2) = true := decide_eq_true c36
                  clear c36
                  by_cases c37 : x6_2 < (((rd_T43 l0 x4_1).f1).length : Int)
                  ·rw [if_pos c37] at H
                   have c37b0 : decide (x6_2 < (((rd_T43 l0 x4_1).f1).length : Int)) = true := decide_eq_true c37
                   clear c37
                   replace H := Option.bind_eq_some_iff.mp H
                   obtain ⟨t116, A380, H⟩ := H
                   replace H : (if t116 = true then (truantref03_Check.l1 k3 l0 x4_1 (wrap64 (x6_2 + 1)) ((rd_T43 l0 x4_1).f0) ((rd_T43 l0 x4_1).f1)) else (some (x4_1, 7))) = some (r1, r2) := H
                   have A38 := Aside0.mk A380
                   clear A380
                   by_cases c39 : t116 = true
                   ·subst c39
                    have H1 : (truantref03_Check.l1 k3 l0 x4_1 (wrap64 (x6_2 + 1)) ((rd_T43 l0 x4_1).f0) ((rd_T43 l0 x4_1).f1)) = some (r1, r2) := by rw [if_pos rfl] at H; exact H
                    clear H
                    have H := H1
                    clear H1
                    have H' := Aside0.mk H
                    clear H
                    have hcz40_0 : wr.cell? ⟨gb108, 0, none⟩ = some (.string ((rd_T43 l0 x4_1).f0)) := (blk_cell BK108.out 0).trans rfl
                    have hcz40_1 : wr.cell? ⟨gb108, 1, none⟩ = some (.slice (some ad111) ((rd_T43 l0 x4_1).f1).length c107_1) := (blk_cell BK108.out 1).trans rfl
                    have hfz40_0 := blk_frozen BK108.out 0
                    have hfz40_1 := blk_frozen BK108.out 1
                    have p115 : 0 ≤ (x6_2 : Int) := of_decide_eq_true (by first | (with_reducible assumption) | assumption)
                    have q115 : x6_2 < (((rd_T43 l0 x4_1).f1).length : Int) := of_decide_eq_true (by first | (with_reducible assumption) | assumption)
                    obtain ⟨ad115, e115, hx115_0, hx115_1⟩ := at_T48 HR107_1.out x6_2 p115 q115
                    obtain rfl : ad111 = ad115 := (by injection e115)
                    replace hx115_0 := (HB.out.cell (World.block_lt_of_cell? w _ hx115_0)).trans hx115_0
                    replace hx115_1 := (HB.out.cell (World.block_lt_of_cell? w _ hx115_1)).trans hx115_1
                    replace p115 := eq_true p115
                    replace q115 := eq_true q115
                    go_wp2_with (first | (go_at_call 22; (with_reducible refine (truantref03_Is.calls k3 _ _ l0 ((rd_T48 ((rd_T43 l0 x4_1).f1) x6_2).f1) true _ ?side1 ?side2 A38.out).mono ?_); (case side1 => repeat (first | exact (Kd.C_below HR0.out HB.out) | (with_reducible refine Kd.C_alloc ?_ _) | (with_reducible refine Kd.C_drewN ?_ _) | (with_reducible refine Kd.C_drew ?_))); (case side2 => exact HC0.out); rintro e w' ⟨rfl, ⟨nd, rfl⟩⟩; (try first | exact ⟨rfl, _, World.drewN_drewN _ _ _⟩ | exact ⟨rfl, _, Eq.trans (World.drewN_drewN _ _ _) (congrArg (World.drewN _) (Nat.add_assoc _ _ _))⟩)))
                    repeat (go_quiet (first | (go_at_call 22; (with_reducible refine (truantref03_Is.calls k3 _ _ l0 ((rd_T48 ((rd_T43 l0 x4_1).f1) x6_2).f1) true _ ?side1 ?side2 A38.out).mono ?_); clear A38; (case side1 => repeat (first | exact (Kd.C_below HR0.out HB.out) | (with_reducible refine Kd.C_alloc ?_ _) | (with_reducible refine Kd.C_drewN ?_ _) | (with_reducible refine Kd.C_drew ?_))); (case side2 => exact HC0.out); rintro e w' ⟨rfl, ⟨nd, rfl⟩⟩; (try first | exact ⟨rfl, _, World.drewN_drewN _ _ _⟩ | exact ⟨rfl, _, Eq.trans (World.drewN_drewN _ _ _) (congrArg (World.drewN _) (Nat.add_assoc _ _ _))⟩))); try go_wp2_with (first | (go_at_call 22; (with_reducible refine (truantref03_Is.calls k3 _ _ l0 ((rd_T48 ((rd_T43 l0 x4_1).f1) x6_2).f1) true _ ?side1 ?side2 A38.out).mono ?_); clear A38; (case side1 => repeat (first | exact (Kd.C_below HR0.out HB.out) | (with_reducible refine Kd.C_alloc ?_ _) | (with_reducible refine Kd.C_drewN ?_ _) | (with_reducible refine Kd.C_drew ?_))); (case side2 => exact HC0.out); rintro e w' ⟨rfl, ⟨nd, rfl⟩⟩; (try first | exact ⟨rfl, _, World.drewN_drewN _ _ _⟩ | exact ⟨rfl, _, Eq.trans (World.drewN_drewN _ _ _) (congrArg (World.drewN _) (Nat.add_assoc _ _ _))⟩))))
                    go_roundg k3
                    case measure => have := HK1.out; have := HK2.out; have := HK3.out; omega
                    case rel => exact ⟨(wrap64 (x6_2 + 1)), (by first | rfl | (simp; done) | (simp [*]; done)), H', ⟨by have := HK1.out; have := HK2.out; have := HK3.out; omega⟩, ⟨by (with_reducible repeat (first | refine blk_drewN ?_ _ | refine blk_drew ?_ | refine blk_alloc ?_ _)); exact BK108.out⟩, ⟨by repeat (first | (with_reducible first | exact HB.out | apply below_alloc | apply pw_below_drewN | apply below_drew1 | refine below_set ?_ GE108.out) | exact HB.out)⟩⟩
                   ·replace c39 := Bool.eq_false_iff.mpr c39
                    subst c39
                    have H1 : (some (x4_1, 7)) = some (r1, r2) := by rw [if_neg (show ¬ (false = true) by decide)] at H; exact H
                    clear H
                    have H := H1
                    clear H1
                    simp only [Option.some.injEq, Prod.mk.injEq] at H
                    obtain ⟨rfl, rfl⟩ := H
                    have hcz41_0 : wr.cell? ⟨gb108, 0, none⟩ = some (.string ((rd_T43 l0 x4_1).f0)) := (blk_cell BK108.out 0).trans rfl
                    have hcz41_1 : wr.cell? ⟨gb108, 1, none⟩ = some (.slice (some ad111) ((rd_T43 l0 x4_1).f1).length c107_1) := (blk_cell BK108.out 1).trans rfl
                    have hfz41_0 := blk_frozen BK108.out 0
                    have hfz41_1 := blk_frozen BK108.out 1
                    have p115 : 0 ≤ (x6_2 : Int) := of_decide_eq_true (by first | (with_reducible assumption) | assumption)
                    have q115 : x6_2 < (((rd_T43 l0 x4_1).f1).length : Int) := of_decide_eq_true (by first | (with_reducible assumption) | assumption)
                    obtain ⟨ad115, e115, hx115_0, hx115_1⟩ := at_T48 HR107_1.out x6_2 p115 q115
                    obtain rfl : ad111 = ad115 := (by injection e115)
                    replace hx115_0 := (HB.out.cell (World.block_lt_of_cell? w _ hx115_0)).trans hx115_0
                    replace hx115_1 := (HB.out.cell (World.block_lt_of_cell? w _ hx115_1)).trans hx115_1
                    replace p115 := eq_true p115
                    replace q115 := eq_true q115
                    go_wp2_with (first | (go_at_call 22; (with_reducible refine (truantref03_Is.calls k3 _ _ l0 ((rd_T48 ((rd_T43 l0 x4_1).f1) x6_2).f1) false _ ?side1 ?side2 A38.out).mono ?_); (case side1 => repeat (first | exact (Kd.C_below HR0.out HB.out) | (with_reducible refine Kd.C_alloc ?_ _) | (with_reducible refine Kd.C_drewN ?_ _) | (with_reducible refine Kd.C_drew ?_))); (case side2 => exact HC0.out); rintro e w' ⟨rfl, ⟨nd, rfl⟩⟩; (try first | exact ⟨rfl, _, World.drewN_drewN _ _ _⟩ | exact ⟨rfl, _, Eq.trans (World.drewN_drewN _ _ _) (congrArg (World.drewN _) (Nat.add_assoc _ _ _))⟩)))
                    repeat (go_quiet (first | (go_at_call 22; (with_reducible refine (truantref03_Is.calls k3 _ _ l0 ((rd_T48 ((rd_T43 l0 x4_1).f1) x6_2).f1) false _ ?side1 ?side2 A38.out).mono ?_); clear A38; (case side1 => repeat (first | exact (Kd.C_below HR0.out HB.out) | (with_reducible refine Kd.C_alloc ?_ _) | (with_reducible refine Kd.C_drewN ?_ _) | (with_reducible refine Kd.C_drew ?_))); (case side2 => exact HC0.out); rintro e w' ⟨rfl, ⟨nd, rfl⟩⟩; (try first | exact ⟨rfl, _, World.drewN_drewN _ _ _⟩ | exact ⟨rfl, _, Eq.trans (World.drewN_drewN _ _ _) (congrArg (World.drewN _) (Nat.add_assoc _ _ _))⟩))); try go_wp2_with (first | (go_at_call 22; (with_reducible refine (truantref03_Is.calls k3 _ _ l0 ((rd_T48 ((rd_T43 l0 x4_1).f1) x6_2).f1) false _ ?side1 ?side2 A38.out).mono ?_); clear A38; (case side1 => repeat (first | exact (Kd.C_below HR0.out HB.out) | (with_reducible refine Kd.C_alloc ?_ _) | (with_reducible refine Kd.C_drewN ?_ _) | (with_reducible refine Kd.C_drew ?_))); (case side2 => exact HC0.out); rintro e w' ⟨rfl, ⟨nd, rfl⟩⟩; (try first | exact ⟨rfl, _, World.drewN_drewN _ _ _⟩ | exact ⟨rfl, _, Eq.trans (World.drewN_drewN _ _ _) (congrArg (World.drewN _) (Nat.add_assoc _ _ _))⟩))))
                    go_ret2
                    exact ⟨by first | rfl | (simp [errW_none, errW_some] <;> rfl) | (simp [*, errW_none, errW_some] <;> rfl), by repeat (first | (with_reducible first | exact HB.out | apply below_alloc | apply pw_below_drewN | apply below_drew1 | refine below_set ?_ GE108.out) | exact HB.out)⟩
                  ·rw [if_neg c37] at H
                   exact absurd H (by simp)
                 ·rw [if_neg c36] at H
                  exact absurd H (by simp)
             ·replace c25 := Bool.eq_false_iff.mpr c25
              subst c25
              have H1 : (some (x4_1, 1)) = some (r1, r2) := by rw [if_neg (show ¬ (false = true) by decide)] at H; exact H
              clear H
              have H := H1
              clear H1
              simp only [Option.some.injEq, Prod.mk.injEq] at H
              obtain ⟨rfl, rfl⟩ := H
              have hcz42_0 : wr.cell? ⟨gb108, 0, none⟩ = some (.string ((rd_T43 l0 x4_1).f0)) := (blk_cell BK108.out 0).trans rfl
              have hcz42_1 : wr.cell? ⟨gb108, 1, none⟩ = some (.slice A107_1 ((rd_T43 l0 x4_1).f1).length c107_1) := (blk_cell BK108.out 1).trans rfl
              have hfz42_0 := blk_frozen BK108.out 0
              have hfz42_1 := blk_frozen BK108.out 1
              have p111 : 0 ≤ (x6_2 : Int) := of_decide_eq_true (by first | (with_reducible assumption) | assumption)
              have q111 : x6_2 < (((rd_T43 l0 x4_1).f1).length : Int) := of_decide_eq_true (by first | (with_reducible assumption) | assumption)
              obtain ⟨ad111, e111, hx111_0, hx111_1⟩ := at_T48 HR107_1.out x6_2 p111 q111
              cases e111
              replace hx111_0 := (HB.out.cell (World.block_lt_of_cell? w _ hx111_0)).trans hx111_0
              replace hx111_1 := (HB.out.cell (World.block_lt_of_cell? w _ hx111_1)).trans hx111_1
              replace p111 := eq_true p111
              replace q111 := eq_true q111
              go_wp2_with (first | (go_at_call 70; (with_reducible refine (truantref02_Word.calls k2 ((rd_T48 ((rd_T43 l0 x4_1).f1) x6_2).f0) false _ A24.out).mono ?_); rintro e w43 ⟨rfl, hb⟩; have n0_ := Aside0.mk (blk_below (g := gb108) (o := .cells #[.string ((rd_T43 l0 x4_1).f0), .slice (some ad111) ((rd_T43 l0 x4_1).f1).length c107_1] 43 (0, 0)) (by (with_reducible repeat (first | refine blk_drewN ?_ _ | refine blk_drew ?_ | refine blk_alloc ?_ _)); exact BK108.out) hb); have n1_ := Aside0.mk (below_step (by repeat (first | (with_reducible first | exact HB.out | apply below_alloc | apply pw_below_drewN | apply below_drew1 | refine below_set ?_ GE108.out) | exact HB.out)) hb); clear BK108; clear HB; have BK108 := n0_; have HB := n1_; clear n0_ n1_; (try clear hb); (try clear hb2); (try clear hk); (try clear hi)))
              repeat (go_quiet (first | (go_at_call 70; (with_reducible refine (truantref02_Word.calls k2 ((rd_T48 ((rd_T43 l0 x4_1).f1) x6_2).f0) false _ A24.out).mono ?_); clear A24; rintro e w43 ⟨rfl, hb⟩; have n0_ := Aside0.mk (blk_below (g := gb108) (o := .cells #[.string ((rd_T43 l0 x4_1).f0), .slice (some ad111) ((rd_T43 l0 x4_1).f1).length c107_1] 43 (0, 0)) (by (with_reducible repeat (first | refine blk_drewN ?_ _ | refine blk_drew ?_ | refine blk_alloc ?_ _)); exact BK108.out) hb); have n1_ := Aside0.mk (below_step (by repeat (first | (with_reducible first | exact HB.out | apply below_alloc | apply pw_below_drewN | apply below_drew1 | refine below_set ?_ GE108.out) | exact HB.out)) hb); clear BK108; clear HB; have BK108 := n0_; have HB := n1_; clear n0_ n1_; (try clear hb); (try clear hb2); (try clear hk); (try clear hi))); try go_wp2_with (first | (go_at_call 70; (with_reducible refine (truantref02_Word.calls k2 ((rd_T48 ((rd_T43 l0 x4_1).f1) x6_2).f0) false _ A24.out).mono ?_); clear A24; rintro e w43 ⟨rfl, hb⟩; have n0_ := Aside0.mk (blk_below (g := gb108) (o := .cells #[.string ((rd_T43 l0 x4_1).f0), .slice (some ad111) ((rd_T43 l0 x4_1).f1).length c107_1] 43 (0, 0)) (by (with_reducible repeat (first | refine blk_drewN ?_ _ | refine blk_drew ?_ | refine blk_alloc ?_ _)); exact BK108.out) hb); have n1_ := Aside0.mk (below_step (by repeat (first | (with_reducible first | exact HB.out | apply below_alloc | apply pw_below_drewN | apply below_drew1 | refine below_set ?_ GE108.out) | exact HB.out)) hb); clear BK108; clear HB; have BK108 := n0_; have HB := n1_; clear n0_ n1_; (try clear hb); (try clear hb2); (try clear hk); (try clear hi))))
              go_ret2
              exact ⟨by first | rfl | (simp [errW_none, errW_some] <;> rfl) | (simp [*, errW_none, errW_some] <;> rfl), by repeat (first | (with_reducible first | exact HB.out | apply below_alloc | apply pw_below_drewN | apply below_drew1 | refine below_set ?_ GE108.out) | exact HB.out)⟩
            ·rw [if_neg c23] at H
             exact absurd H (by simp)
           ·rw [if_neg c22] at H
            have c22b0 : decide (x6_2 < (((rd_T43 l0 x4_1).f1).length : Int)) = false := decide_eq_false c22
            clear c22
            have H' := Aside0.mk H
            clear H
            have hcz44_0 : wr.cell? ⟨gb108, 0, none⟩ = some (.string ((rd_T43 l0 x4_1).f0)) := (blk_cell BK108.out 0).trans rfl
            have hcz44_1 : wr.cell? ⟨gb108, 1, none⟩ = some (.slice A107_1 ((rd_T43 l0 x4_1).f1).length c107_1) := (blk_cell BK108.out 1).trans rfl
            have hfz44_0 := blk_frozen BK108.out 0
            have hfz44_1 := blk_frozen BK108.out 1
            go_wp2
            repeat (go_quiet (fail); try go_wp2)
            go_roundg k2
            case measure => have := HK1.out; have := HK2.out; omega
            case rel => exact ⟨(wrap64 (x4_1 + 1)), (by first | rfl | (simp; done) | (simp [*]; done)), H', ⟨by have := HK1.out; have := HK2.out; omega⟩, ⟨by repeat (first | (with_reducible first | exact HB.out | apply below_alloc | apply pw_below_drewN | apply below_drew1 | refine below_set ?_ GE108.out) | exact HB.out)⟩⟩
      ·replace c6 := Bool.eq_false_iff.mpr c6
       subst c6
       have H1 : (some (x4_1, 1)) = some (r1, r2) := by rw [if_neg (show ¬ (false = true) by decide)] at H; exact H
       clear H
       have H := H1
       clear H1
       simp only [Option.some.injEq, Prod.mk.injEq] at H
       obtain ⟨rfl, rfl⟩ := H
       have p107 : 0 ≤ (x4_1 : Int) := of_decide_eq_true (by first | (with_reducible assumption) | assumption)
       have q107 : x4_1 < (l0.length : Int) := of_decide_eq_true (by first | (with_reducible assumption) | assumption)
       obtain ⟨ad107, A107_1, c107_1, e107, hx107_0, hx107_1, hl107_1, hi107_1⟩ := at_T43 HR0.out x4_1 p107 q107
       cases e107
       replace hx107_0 := (HB.out.cell (World.block_lt_of_cell? w _ hx107_0)).trans hx107_0
       replace hx107_1 := (HB.out.cell (World.block_lt_of_cell? w _ hx107_1)).trans hx107_1
       have HR107_1 := Aside0.mk hi107_1
       have HC107_1 := Aside0.mk hl107_1
       clear hi107_1 hl107_1
       replace p107 := eq_true p107
       replace q107 := eq_true q107
       go_wp2_with (first | ((with_reducible refine gate_dst (N := 5) rfl ?_); refine box_event ?hg (N := 5) ?hd (cs := #[.string (⟨#[]⟩ : ByteArray), .slice none 0 0]) (t := 43) ?hr ?_; (case hd => rfl); (case hg => rfl); (case hr => first | (go_simp; done) | (go_simp; rfl)); intro gb108 hg w45 hbox hb; have n0_ := Aside0.mk (below_step (by repeat (first | (with_reducible first | exact HB.out | apply below_alloc | apply pw_below_drewN | apply below_drew1) | exact HB.out)) hb); have n1_ := Aside0.mk (hbox); have n2_ := Aside0.mk ((by rw [hg]; exact (below_size (by repeat (first | (with_reducible first | exact HB.out | apply below_alloc | apply pw_below_drewN | apply below_drew1) | exact HB.out))) : w.heap.size ≤ gb108)); have n3_ := Aside0.mk ((by rw [hg]; exact (below_size (by repeat (first | (with_reducible first | exact HB.out | apply below_alloc | apply pw_below_drewN | apply below_drew1) | exact HB.out))) : w.heap.size ≤ gb108)); clear HB; have HB := n0_; have BK108 := n1_; have GW108 := n2_; have GE108 := n3_; clear n0_ n1_ n2_ n3_; clear hb hbox hg; have hcz46_0 : w45.cell? ⟨gb108, 0, none⟩ = some (.string (⟨#[]⟩ : ByteArray)) := (blk_cell BK108.out 0).trans rfl; have hcz46_1 : w45.cell? ⟨gb108, 1, none⟩ = some (.slice none 0 0) := (blk_cell BK108.out 1).trans rfl; have hfz46_0 := blk_frozen BK108.out 0; have hfz46_1 := blk_frozen BK108.out 1) | (go_at_call 70; (with_reducible refine (truantref02_Word.calls k1 ((rd_T43 l0 x4_1).f0) false _ A5.out).mono ?_); rintro e w47 ⟨rfl, hb⟩; have n0_ := Aside0.mk (blk_below (g := gb108) (o := .cells #[.string ((rd_T43 l0 x4_1).f0), .slice A107_1 ((rd_T43 l0 x4_1).f1).length c107_1] 43 (0, 0)) (by (with_reducible repeat (first | refine blk_drewN ?_ _ | refine blk_drew ?_ | refine blk_alloc ?_ _)); refine blk_put (cs := #[.string ((rd_T43 l0 x4_1).f0), .slice none 0 0]) ?_ 1 _ rfl; (with_reducible repeat (first | refine blk_drewN ?_ _ | refine blk_drew ?_ | refine blk_alloc ?_ _)); refine blk_put (cs := #[.string (⟨#[]⟩ : ByteArray), .slice none 0 0]) ?_ 0 _ rfl; (with_reducible repeat (first | refine blk_drewN ?_ _ | refine blk_drew ?_ | refine blk_alloc ?_ _)); exact BK108.out) hb); have n1_ := Aside0.mk (below_step (by repeat (first | (with_reducible first | exact HB.out | apply below_alloc | apply pw_below_drewN | apply below_drew1 | refine below_set ?_ GE108.out) | exact HB.out)) hb); clear BK108; clear HB; have BK108 := n0_; have HB := n1_; clear n0_ n1_; (try clear hb); (try clear hb2); (try clear hk); (try clear hi)))
       repeat (go_quiet (first | ((with_reducible refine gate_dst (N := 5) rfl ?_); refine box_event ?hg (N := 5) ?hd (cs := #[.string (⟨#[]⟩ : ByteArray), .slice none 0 0]) (t := 43) ?hr ?_; (case hd => rfl); (case hg => rfl); (case hr => first | (go_simp; done) | (go_simp; rfl)); intro gb108 hg w45 hbox hb; have n0_ := Aside0.mk (below_step (by repeat (first | (with_reducible first | exact HB.out | apply below_alloc | apply pw_below_drewN | apply below_drew1) | exact HB.out)) hb); have n1_ := Aside0.mk (hbox); have n2_ := Aside0.mk ((by rw [hg]; exact (below_size (by repeat (first | (with_reducible first | exact HB.out | apply below_alloc | apply pw_below_drewN | apply below_drew1) | exact HB.out))) : w.heap.size ≤ gb108)); have n3_ := Aside0.mk ((by rw [hg]; exact (below_size (by repeat (first | (with_reducible first | exact HB.out | apply below_alloc | apply pw_below_drewN | apply below_drew1) | exact HB.out))) : w.heap.size ≤ gb108)); clear HB; have HB := n0_; have BK108 := n1_; have GW108 := n2_; have GE108 := n3_; clear n0_ n1_ n2_ n3_; clear hb hbox hg; have hcz46_0 : w45.cell? ⟨gb108, 0, none⟩ = some (.string (⟨#[]⟩ : ByteArray)) := (blk_cell BK108.out 0).trans rfl; have hcz46_1 : w45.cell? ⟨gb108, 1, none⟩ = some (.slice none 0 0) := (blk_cell BK108.out 1).trans rfl; have hfz46_0 := blk_frozen BK108.out 0; have hfz46_1 := blk_frozen BK108.out 1) | (go_at_call 70; (with_reducible refine (truantref02_Word.calls k1 ((rd_T43 l0 x4_1).f0) false _ A5.out).mono ?_); clear A5; rintro e w47 ⟨rfl, hb⟩; have n0_ := Aside0.mk (blk_below (g := gb108) (o := .cells #[.string ((rd_T43 l0 x4_1).f0), .slice A107_1 ((rd_T43 l0 x4_1).f1).length c107_1] 43 (0, 0)) (by (with_reducible repeat (first | refine blk_drewN ?_ _ | refine blk_drew ?_ | refine blk_alloc ?_ _)); refine blk_put (cs := #[.string ((rd_T43 l0 x4_1).f0), .slice none 0 0]) ?_ 1 _ rfl; (with_reducible repeat (first | refine blk_drewN ?_ _ | refine blk_drew ?_ | refine blk_alloc ?_ _)); refine blk_put (cs := #[.string (⟨#[]⟩ : ByteArray), .slice none 0 0]) ?_ 0 _ rfl; (with_reducible repeat (first | refine blk_drewN ?_ _ | refine blk_drew ?_ | refine blk_alloc ?_ _)); exact BK108.out) hb); have n1_ := Aside0.mk (below_step (by repeat (first | (with_reducible first | exact HB.out | apply below_alloc | apply pw_below_drewN | apply below_drew1 | refine below_set ?_ GE108.out) | exact HB.out)) hb); clear BK108; clear HB; have BK108 := n0_; have HB := n1_; clear n0_ n1_; (try clear hb); (try clear hb2); (try clear hk); (try clear hi))); try go_wp2_with (first | ((with_reducible refine gate_dst (N := 5) rfl ?_); refine box_event ?hg (N := 5) ?hd (cs := #[.string (⟨#[]⟩ : ByteArray), .slice none 0 0]) (t := 43) ?hr ?_; (case hd => rfl); (case hg => rfl); (case hr => first | (go_simp; done) | (go_simp; rfl)); intro gb108 hg w45 hbox hb; have n0_ := Aside0.mk (below_step (by repeat (first | (with_reducible first | exact HB.out | apply below_alloc | apply pw_below_drewN | apply below_drew1) | exact HB.out)) hb); have n1_ := Aside0.mk (hbox); have n2_ := Aside0.mk ((by rw [hg]; exact (below_size (by repeat (first | (with_reducible first | exact HB.out | apply below_alloc | apply pw_below_drewN | apply below_drew1) | exact HB.out))) : w.heap.size ≤ gb108)); have n3_ := Aside0.mk ((by rw [hg]; exact (below_size (by repeat (first | (with_reducible first | exact HB.out | apply below_alloc | apply pw_below_drewN | apply below_drew1) | exact HB.out))) : w.heap.size ≤ gb108)); clear HB; have HB := n0_; have BK108 := n1_; have GW108 := n2_; have GE108 := n3_; clear n0_ n1_ n2_ n3_; clear hb hbox hg; have hcz46_0 : w45.cell? ⟨gb108, 0, none⟩ = some (.string (⟨#[]⟩ : ByteArray)) := (blk_cell BK108.out 0).trans rfl; have hcz46_1 : w45.cell? ⟨gb108, 1, none⟩ = some (.slice none 0 0) := (blk_cell BK108.out 1).trans rfl; have hfz46_0 := blk_frozen BK108.out 0; have hfz46_1 := blk_frozen BK108.out 1) | (go_at_call 70; (with_reducible refine (truantref02_Word.calls k1 ((rd_T43 l0 x4_1).f0) false _ A5.out).mono ?_); clear A5; rintro e w47 ⟨rfl, hb⟩; have n0_ := Aside0.mk (blk_below (g := gb108) (o := .cells #[.string ((rd_T43 l0 x4_1).f0), .slice A107_1 ((rd_T43 l0 x4_1).f1).length c107_1] 43 (0, 0)) (by (with_reducible repeat (first | refine blk_drewN ?_ _ | refine blk_drew ?_ | refine blk_alloc ?_ _)); refine blk_put (cs := #[.string ((rd_T43 l0 x4_1).f0), .slice none 0 0]) ?_ 1 _ rfl; (with_reducible repeat (first | refine blk_drewN ?_ _ | refine blk_drew ?_ | refine blk_alloc ?_ _)); refine blk_put (cs := #[.string (⟨#[]⟩ : ByteArray), .slice none 0 0]) ?_ 0 _ rfl; (with_reducible repeat (first | refine blk_drewN ?_ _ | refine blk_drew ?_ | refine blk_alloc ?_ _)); exact BK108.out) hb); have n1_ := Aside0.mk (below_step (by repeat (first | (with_reducible first | exact HB.out | apply below_alloc | apply pw_below_drewN | apply below_drew1 | refine below_set ?_ GE108.out) | exact HB.out)) hb); clear BK108; clear HB; have BK108 := n0_; have HB := n1_; clear n0_ n1_; (try clear hb); (try clear hb2); (try clear hk); (try clear hi))))
       go_ret2
       exact ⟨by first | rfl | (simp [errW_none, errW_some] <;> rfl) | (simp [*, errW_none, errW_some] <;> rfl), by repeat (first | (with_reducible first | exact HB.out | apply below_alloc | apply pw_below_drewN | apply below_drew1 | refine below_set ?_ GE108.out) | exact HB.out)⟩
     ·rw [if_neg c4] at H
      exact absurd H (by simp)
    ·rw [if_neg c3] at H
     have c3b0 : decide (x4_1 < (l0.length : Int)) = false := decide_eq_false c3
     clear c3
     simp only [Option.some.injEq, Prod.mk.injEq] at H
     obtain ⟨rfl, rfl⟩ := H
     go_wp2
     repeat (go_quiet (fail); try go_wp2)
     go_ret2
     exact ⟨by first | rfl | (simp [errW_none, errW_some] <;> rfl) | (simp [*, errW_none, errW_some] <;> rfl), by repeat (first | (with_reducible first | exact HB.out | apply below_alloc | apply pw_below_drewN | apply below_drew1) | exact HB.out)⟩
end Go.Proofs.Ytonmlncejikbiaa.Q
/- Whether structs can be: what kind.Check and the reference's come to. -/
namespace Go.Proofs.Ytonmlncejikbiaa.Q
open Go.RowKit Go.Proofs.YtonmlncejikbiaaW.PrintWords Go.Proofs.YtonmlncejikbiaaW.PrintLast Go.Proofs.YtonmlncejikbiaaW.PrintMore
set_option linter.unusedVariables false
set_option linter.unusedSimpArgs false
def isS (l : List S43) (t : ByteArray) : Bool := t.toList == [105, 110, 116] || (t.toList == [98, 111, 111, 108] || (starB t && decide (0 ≤ findR (nameIs (rest t)) l)))
theorem is_ev (l : List S43) (t : ByteArray) : Ev (fun k => kind_Is.f k l t) (isS l t) := by
 have jt : Ev (fun k => kind_Is.j0 k l t true) true := Ev.step (f := fun _ => some true) (fun k => rfl) (Ev.now _)
 unfold isS
 by_cases h1 : t.toList = [105, 110, 116]
 ·exact Ev.pos h1 (Ev.eq jt (by rw [h1]; rfl))
 ·refine Ev.neg h1 ?_
  rw [beq_eq_false_iff_ne.mpr h1, Bool.false_or]
  by_cases h2 : t.toList = [98, 111, 111, 108]
  ·rw [beq_iff_eq.mpr h2]; exact Ev.eq jt (by simp)
  ·rw [beq_eq_false_iff_ne.mpr h2, Bool.false_or]
   refine Ev.step (f := fun k => (strings_CutPrefix.f t (⟨#[42]⟩ : ByteArray)).bind fun bt118 => (if bt118.2 = true then ((kind_Find.f l bt118.1).bind fun bt120 => (some bt120.2)) else (some false))) (fun k => rfl) ?_
   rw [cutPrefix_one]
   cases hs : starB t with
   | false => exact Ev.now _
   | true =>
    refine Ev.eq (Ev.now _) ?_
    unfold placeOf
    by_cases h : findR (nameIs (rest t)) l < 0
    ·rw [if_pos rfl, if_pos h]
     simp; omega
    ·rw [if_pos rfl, if_neg h]
     simp; omega
def fieldS (l : List S43) (ahead : List S48) (a b : ByteArray) : Int := if wordB a = true then (if 0 ≤ findR (fnameIs a) ahead then 6 else if isS l b = true then 0 else 7) else 1
theorem field_ev (l : List S43) (ahead : List S48) (a b : ByteArray) (ha : a.size ≤ 9223372036854775807) : Ev (fun k => kind_field.f k l ahead a b) (fieldS l ahead a b) := by
 refine Ev.bind (isWord_ev a ha) ?_
 unfold fieldS
 cases wordB a with
 | false => exact Ev.neg (by decide) (Ev.now _)
 | true =>
  refine Ev.pos rfl ?_
  rw [if_pos rfl]
  by_cases h : 0 ≤ findR (fnameIs a) ahead
  ·rw [if_pos h]; exact Ev.pos h (Ev.now _)
  ·rw [if_neg h]
   refine Ev.neg h (Ev.bind (is_ev l b) ?_)
   cases isS l b with
   | true => exact Ev.pos rfl (Ev.now _)
   | false => exact Ev.neg (by decide) (Ev.now _)
def fieldsD (l : List S43) (fs : List S48) : Nat → Nat → Int
 | 0, _ => 0
 | d + 1, j => if fieldS l (fs.take j) (fs.getD j z48).f0 (fs.getD j z48).f1 = 0 then fieldsD l fs d (j + 1) else fieldS l (fs.take j) (fs.getD j z48).f0 (fs.getD j z48).f1
def oneS (l : List S43) (i : Nat) : Int :=
 if wordB (l.getD i z43).f0 = true then (if findR (nameIs (l.getD i z43).f0) l < (i : Int) then 6 else if (l.getD i z43).f1.length > 8 then 4 else fieldsD l (l.getD i z43).f1 (l.getD i z43).f1.length 0) else 1
def checkD (l : List S43) : Nat → Nat → Int × Int
 | 0, _ => (0, 0)
 | d + 1, i => if oneS l i = 0 then checkD l d (i + 1) else ((i : Int), oneS l i)
def checkS (l : List S43) : Int × Int := if l.length > 12 then (0, 4) else checkD l l.length 0
/-- The sizes that came in. -/
structure Sz (l : List S43) : Prop where
 len : l.length ≤ 4398046511104
 fields : ∀ j : Nat, j < l.length → (l.getD j z43).f1.length ≤ 4398046511104
 names : ∀ j : Nat, j < l.length → (l.getD j z43).f0.size ≤ 140737488351232
 fnames : ∀ j q : Nat, j < l.length → q < (l.getD j z43).f1.length → ((l.getD j z43).f1.getD q z48).f0.size ≤ 140737488351232
 types : ∀ j q : Nat, j < l.length → q < (l.getD j z43).f1.length → ((l.getD j z43).f1.getD q z48).f1.size ≤ 140737488351232
theorem one_ev (l : List S43) (hl : Sz l) (i : Nat) (hi : i < l.length) : Ev (fun k => kind_one.f k l (i : Int)) (oneS l i) := by
 obtain ⟨x, hx⟩ : ∃ x, x = l.getD i z43 := ⟨_, rfl⟩
 have rx : rd_T43 l (i : Int) = x := by rw [hx]; rfl
 have hn := hl.names i hi
 have hf := hl.fields i hi
 have hfn := fun q => hl.fnames i q hi
 rw [← hx] at hn hf hfn
 refine Ev.pos (by omega) (Ev.pos (by omega) ?_)
 rw [rx]
 refine Ev.bind (isWord_ev x.f0 (by omega)) ?_
 unfold oneS
 rw [← hx]
 cases wordB x.f0 with
 | false => exact Ev.neg (by decide) (Ev.now _)
 | true =>
  refine Ev.pos rfl (Ev.one (a := kind_Find.f l x.f0) (b := placeOf (findR (nameIs x.f0) l)) rfl ?_)
  rw [if_pos rfl]
  have hp : 0 ≤ findR (nameIs x.f0) l ∧ (placeOf (findR (nameIs x.f0) l)).1 = findR (nameIs x.f0) l := by
   have hlt : l.findIdx (nameIs x.f0) < l.length := List.findIdx_lt_length_of_exists ⟨l[i], List.getElem_mem hi, by rw [← getD_at l z43 hi, ← hx]; unfold nameIs; simp⟩
   have h0 : 0 ≤ findR (nameIs x.f0) l := by unfold findR; rw [if_pos hlt]; omega
   exact ⟨h0, by unfold placeOf; rw [if_neg (by omega)]⟩
  rw [hp.2]
  by_cases h1 : findR (nameIs x.f0) l < (i : Int)
  ·rw [if_pos h1]; exact Ev.pos h1 (Ev.now _)
  ·rw [if_neg h1]
   refine Ev.neg h1 ?_
   by_cases h2 : x.f1.length > 8
   ·rw [if_pos h2]; exact Ev.pos (by omega) (Ev.now _)
   ·rw [if_neg h2]
    refine Ev.neg (by omega) ?_
    have key : ∀ (d j : Nat), j ≤ x.f1.length → x.f1.length - j = d → Ev (fun k => kind_one.l0 k l x.f1 (x.f1.length : Int) (j : Int) x.f0 x.f1) (fieldsD l x.f1 d j) := by
     intro d
     induction d with
     | zero => exact fun j h0 hd => Ev.step (fun k => rfl) (Ev.neg (by omega) (Ev.now _))
     | succ d ih =>
      intro j h0 hd
      refine Ev.step (fun k => rfl) (Ev.pos (by omega) (Ev.pos (by omega) (Ev.pos (by omega) (Ev.pos (by omega) ?_))))
      have rf : rd_T48 x.f1 (j : Int) = x.f1.getD j z48 := rfl
      rw [rf, Int.toNat_natCast]
      refine Ev.bind (field_ev l _ _ _ (by have := hfn j (by omega); omega)) ?_
      unfold fieldsD
      by_cases h3 : fieldS l (x.f1.take j) (x.f1.getD j z48).f0 (x.f1.getD j z48).f1 = 0
      ·rw [if_pos h3, wrap_succ (by omega) (by omega)]
       exact Ev.pos h3 (ih (j + 1) (by omega) (by omega))
      ·rw [if_neg h3]
       exact Ev.neg h3 (Ev.now _)
    exact key x.f1.length 0 (by omega) (by omega)
theorem check_ev (l : List S43) (hl : Sz l) : Ev (fun k => kind_Check.f k l) (checkS l) := by
 unfold checkS
 by_cases h : l.length > 12
 ·rw [if_pos h]; exact Ev.pos (by omega) (Ev.now _)
 ·rw [if_neg h]
  refine Ev.neg (by omega) ?_
  have key : ∀ (d i : Nat), i ≤ l.length → l.length - i = d → Ev (fun k => kind_Check.l0 k l (l.length : Int) (i : Int)) (checkD l d i) := by
   intro d
   induction d with
   | zero => exact fun i h0 hd => Ev.step (fun k => rfl) (Ev.neg (by omega) (Ev.now _))
   | succ d ih =>
    intro i h0 hd
    refine Ev.step (fun k => rfl) (Ev.pos (by omega) (Ev.bind (one_ev l hl i (by omega)) ?_))
    unfold checkD
    by_cases h3 : oneS l i = 0
    ·rw [if_pos h3, wrap_succ (by omega) (by omega)]
     exact Ev.pos h3 (ih (i + 1) (by omega) (by omega))
    ·rw [if_neg h3]
     exact Ev.neg h3 (Ev.now _)
  exact key l.length 0 (by omega) (by omega)
theorem great_l (l : List S43) (hl : l.length ≤ 16) (d : Nat) : ∀ i : Nat, i ≤ l.length → l.length - i = d → (∀ j : Nat, j < i → (l.getD j z43).f1.length ≤ 12) →
  ∃ b, Ev (fun k => truantlaw06_great.l0 k l (i : Int)) b ∧ (b = false → ∀ j : Nat, j < l.length → (l.getD j z43).f1.length ≤ 12) := by
 induction d with
 | zero =>
  intro i h0 hd h
  exact ⟨false, Ev.step (fun k => rfl) (Ev.neg (by omega) (Ev.now _)), fun _ j hj => h j (by omega)⟩
 | succ d ih =>
  intro i h0 hd h
  by_cases hg : (((rd_T43 l (i : Int)).f1).length : Int) > 12
  ·exact ⟨true, Ev.step (fun k => rfl) (Ev.pos (by omega) (Ev.pos (by omega) (Ev.pos hg (Ev.now _)))), fun e => by cases e⟩
  ·obtain ⟨b, hb, hb2⟩ := ih (i + 1) (by omega) (by omega) (all_succ h (by
    have e : rd_T43 l (i : Int) = l.getD i z43 := by unfold rd_T43; rw [Int.toNat_natCast]
    rw [← e]; omega))
   refine ⟨b, Ev.step (fun k => rfl) (Ev.pos (by omega) (Ev.pos (by omega) (Ev.neg hg ?_))), hb2⟩
   rw [wrap_succ (by omega) (by omega)]
   exact hb
theorem great_ev (l : List S43) : ∃ b, Ev (fun k => truantlaw06_great.f k l) b ∧ (b = false → l.length ≤ 16 ∧ ∀ x ∈ l, x.f1.length ≤ 12) := by
 unfold truantlaw06_great.f
 by_cases h : (l.length : Int) > 16
 ·exact ⟨true, Ev.pos h (Ev.now _), fun e => by cases e⟩
 ·obtain ⟨b, hb, hb2⟩ := great_l l (by omega) l.length 0 (by omega) (by omega) (fun j hj => by omega)
  refine ⟨b, Ev.neg h hb, fun e => ⟨by omega, fun x hx => ?_⟩⟩
  obtain ⟨j, hj, rfl⟩ := List.mem_iff_getElem.mp hx
  have := hb2 e j hj
  rwa [getD_at _ _ hj] at this
theorem sz_of {l : List S43} (h : l.length * 40 ≤ 140737488351232 ∧ ∀ x ∈ l, WF43 x) : Sz l where
 len := by omega
 fields := fun j hj => by
  have h1 := (h.2 _ (List.getElem_mem hj)).2.1
  rw [getD_at _ _ hj]
  have h2 : (l[j]).f1.length * 32 ≤ 140737488351232 := h1
  omega
 names := fun j hj => by
  rw [getD_at _ _ hj]
  exact (h.2 _ (List.getElem_mem hj)).1
 fnames := fun j q hj hq => by
  rw [getD_at _ _ hj] at hq ⊢
  rw [getD_at _ _ hq]
  exact ((h.2 _ (List.getElem_mem hj)).2.2 _ (List.getElem_mem hq)).1
 types := fun j q hj hq => by
  rw [getD_at _ _ hj] at hq ⊢
  rw [getD_at _ _ hq]
  exact ((h.2 _ (List.getElem_mem hj)).2.2 _ (List.getElem_mem hq)).2
theorem rs_of {l : List S43} (hz : Sz l) (h1 : l.length ≤ 16) (h2 : ∀ x ∈ l, x.f1.length ≤ 12) : RS l := by
 refine ⟨by omega, fun x hx => by have := h2 x hx; omega, fun x hx => ?_⟩
 obtain ⟨j, hj, rfl⟩ := List.mem_iff_getElem.mp hx
 obtain ⟨k, hk⟩ := (links_ev (l[j]).f0 (l[j]).f1 (by have := h2 _ hx; omega) (fun q hq => by
  have := hz.types j q hj (by rw [getD_at _ _ hj]; exact hq)
  rw [getD_at _ _ hj] at this
  omega)).rounds
 exact ⟨k, hk⟩
theorem HeapReach_pure : HeapReach.Pure := by
 intro l0 l1 l2 a3 a4 h0 h1 _ _ _
 obtain ⟨b, hb, hb2⟩ := great_ev l0
 have hz := sz_of h0
 have hc := check_ev l0 hz
 have h : Ev (fun k => truantlaw06_HeapReach.f k l0 l1 l2 a3 a4) true := by
  unfold truantlaw06_HeapReach.f
  refine Ev.bind hb ?_
  cases b with
  | true => exact Ev.pos rfl (Ev.now _)
  | false =>
   obtain ⟨q1, q2⟩ := hb2 rfl
   refine Ev.neg (by decide) ?_
   by_cases hl : (l1.length : Int) > 80
   ·exact Ev.pos hl (Ev.now _)
   ·refine Ev.neg hl ?_
    by_cases hl2 : (l2.length : Int) > 20
    ·exact Ev.pos hl2 (Ev.now _)
    ·refine Ev.neg hl2 (Ev.bind hc (Ev.pos (decB_true ⟨rs_of hz q1 q2, fun x hx => ?_⟩) (Ev.now _)))
     have hw := (h1.2 x hx).2.2.2.2
     have hw : (Lit.int .i64 x.f4).wf = true := hw
     simp [Lit.wf] at hw
     exact hw
 exact h.rounds
end Go.Proofs.Ytonmlncejikbiaa.Q
