/- What the row of StoreExact rests on, part 1: contracts of the functions that it reaches, and the plain law. -/
import Derived.Test.YtonmlncejikbiaaJStoreExact0
namespace Go.Proofs.Ytonmlncejikbiaa.Q
open Go.RowKit Go.Proofs.YtonmlncejikbiaaW.PrintWords Go.Proofs.YtonmlncejikbiaaW.PrintLast Go.Proofs.YtonmlncejikbiaaW.PrintMore
attribute [local go_sem] max2_int min2_int max_two min_two max_three min_three max_four min_four   -- for this text's walks alone
set_option linter.unusedVariables false
set_option linter.unusedSimpArgs false
/-! ### truantref03_Check: function 16 -/
mutual
def truantref03_Check.l0 : Nat → List (S43) → Int → Option (Int × Int)
 | 0, _, _ => none
 | k + 1, x0, x4 => if x4 < (x0.length : Int) then (if 0 ≤ x4 then ((truantref02_Word.f k ((rd_T43 x0 x4).f0)).bind fun t109 => (if t109 = true then ((truantref03_Find.f k x0 ((rd_T43 x0 x4).f0)).bind fun t110 => (if t110 < x4 then (some (x4, 6)) else (if (((rd_T43 x0 x4).f1).length : Int) > 8 then (some (x4, 4)) else (truantref03_Check.l1 k x0 x4 0 ((rd_T43 x0 x4).f0) ((rd_T43 x0 x4).f1))))) else (some (x4, 1)))) else (none)) else (some (0, 0))
def truantref03_Check.l1 : Nat → List (S43) → Int → Int → ByteArray → List (S48) → Option (Int × Int)
 | 0, _, _, _, _, _ => none
 | k + 1, x0, x4, x6, x109000, x109001 => if x6 < (x109001.length : Int) then (if 0 ≤ x6 then ((truantref02_Word.f k ((rd_T48 x109001 x6).f0)).bind fun t112 => (if t112 = true then (truantref03_Check.l2 k x0 x4 x6 0 x109000 x109001) else (some (x4, 1)))) else (none)) else (truantref03_Check.l0 k x0 (wrap64 (x4 + 1)))
def truantref03_Check.l2 : Nat → List (S43) → Int → Int → Int → ByteArray → List (S48) → Option (Int × Int)
 | 0, _, _, _, _, _, _ => none
 | k + 1, x0, x4, x6, x7, x109000, x109001 => if x7 < x6 then (if 0 ≤ x7 then (if x7 < (x109001.length : Int) then (if 0 ≤ x6 then (if x6 < (x109001.length : Int) then (if ((rd_T48 x109001 x7).f0).toList = ((rd_T48 x109001 x6).f0).toList then (some (x4, 6)) else (truantref03_Check.l2 k x0 x4 x6 (wrap64 (x7 + 1)) x109000 x109001)) else (none)) else (none)) else (none)) else (none)) else (if 0 ≤ x6 then (if x6 < (x109001.length : Int) then ((truantref03_Is.f k x0 ((rd_T48 x109001 x6).f1)).bind fun t116 => (if t116 = true then (truantref03_Check.l1 k x0 x4 (wrap64 (x6 + 1)) x109000 x109001) else (some (x4, 7)))) else (none)) else (none))
end
def truantref03_Check.f (k : Nat) (l0 : List (S43)) : Option (Int × Int) := if (l0.length : Int) > 12 then (some (0, 4)) else (truantref03_Check.l0 k l0 0)
theorem truantref03_Check.mono_l : ∀ k, (∀ y0 y1, LeO (truantref03_Check.l0 k y0 y1) (truantref03_Check.l0 (k + 1) y0 y1)) ∧ (∀ y0 y1 y2 y3 y4, LeO (truantref03_Check.l1 k y0 y1 y2 y3 y4) (truantref03_Check.l1 (k + 1) y0 y1 y2 y3 y4)) ∧ (∀ y0 y1 y2 y3 y4 y5, LeO (truantref03_Check.l2 k y0 y1 y2 y3 y4 y5) (truantref03_Check.l2 (k + 1) y0 y1 y2 y3 y4 y5))
 | 0 => ⟨fun _ _ r h => by simp [truantref03_Check.l0] at h, fun _ _ _ _ _ r h => by simp [truantref03_Check.l1] at h, fun _ _ _ _ _ _ r h => by simp [truantref03_Check.l2] at h⟩
 | k + 1 => by
  obtain ⟨ih0, ih1, ih2⟩ := truantref03_Check.mono_l k
  refine ⟨?_, ?_, ?_⟩
  ·intro y0 y1
   unfold truantref03_Check.l0
   repeat' first
   | (with_reducible exact ih0 _ _)
   | (with_reducible exact ih1 _ _ _ _ _)
   | (with_reducible exact ih2 _ _ _ _ _ _)
   | (with_reducible exact truantref02_Word.mono _ _)
   | (with_reducible exact truantref03_Find.mono _ _ _)
   | (with_reducible exact truantref03_Is.mono _ _ _)
   | (with_reducible exact LeO.refl _)
   | (with_reducible exact LeO.none _)
   | (with_reducible refine LeO.ite ?_ ?_)
   | (with_reducible refine LeO.bind ?_ (fun _ => ?_))
   | exact ih0 _ _
   | exact ih1 _ _ _ _ _
   | exact ih2 _ _ _ _ _ _
   | exact truantref02_Word.mono _ _
   | exact truantref03_Find.mono _ _ _
   | exact truantref03_Is.mono _ _ _
   | exact LeO.none _
   | refine LeO.ite ?_ ?_
   | refine LeO.bind ?_ (fun _ => ?_)
  ·intro y0 y1 y2 y3 y4
   unfold truantref03_Check.l1
   repeat' first
   | (with_reducible exact ih0 _ _)
   | (with_reducible exact ih1 _ _ _ _ _)
   | (with_reducible exact ih2 _ _ _ _ _ _)
   | (with_reducible exact truantref02_Word.mono _ _)
   | (with_reducible exact truantref03_Find.mono _ _ _)
   | (with_reducible exact truantref03_Is.mono _ _ _)
   | (with_reducible exact LeO.refl _)
   | (with_reducible exact LeO.none _)
   | (with_reducible refine LeO.ite ?_ ?_)
   | (with_reducible refine LeO.bind ?_ (fun _ => ?_))
   | exact ih0 _ _
   | exact ih1 _ _ _ _ _
   | exact ih2 _ _ _ _ _ _
   | exact truantref02_Word.mono _ _
   | exact truantref03_Find.mono _ _ _
   | exact truantref03_Is.mono _ _ _
   | exact LeO.none _
   | refine LeO.ite ?_ ?_
   | refine LeO.bind ?_ (fun _ => ?_)
  ·intro y0 y1 y2 y3 y4 y5
   unfold truantref03_Check.l2
   repeat' first
   | (with_reducible exact ih0 _ _)
   | (with_reducible exact ih1 _ _ _ _ _)
   | (with_reducible exact ih2 _ _ _ _ _ _)
   | (with_reducible exact truantref02_Word.mono _ _)
   | (with_reducible exact truantref03_Find.mono _ _ _)
   | (with_reducible exact truantref03_Is.mono _ _ _)
   | (with_reducible exact LeO.refl _)
   | (with_reducible exact LeO.none _)
   | (with_reducible refine LeO.ite ?_ ?_)
   | (with_reducible refine LeO.bind ?_ (fun _ => ?_))
   | exact ih0 _ _
   | exact ih1 _ _ _ _ _
   | exact ih2 _ _ _ _ _ _
   | exact truantref02_Word.mono _ _
   | exact truantref03_Find.mono _ _ _
   | exact truantref03_Is.mono _ _ _
   | exact LeO.none _
   | refine LeO.ite ?_ ?_
   | refine LeO.bind ?_ (fun _ => ?_)
theorem truantref03_Check.mono : ∀ a0 k, LeO (truantref03_Check.f k a0) (truantref03_Check.f (k + 1) a0) := by
 intro a0 k
 obtain ⟨ih0, ih1, ih2⟩ := truantref03_Check.mono_l k
 unfold truantref03_Check.f
 repeat' first
   | (with_reducible exact ih0 _ _)
   | (with_reducible exact ih1 _ _ _ _ _)
   | (with_reducible exact ih2 _ _ _ _ _ _)
   | (with_reducible exact truantref02_Word.mono _ _)
   | (with_reducible exact truantref03_Find.mono _ _ _)
   | (with_reducible exact truantref03_Is.mono _ _ _)
   | (with_reducible exact LeO.refl _)
   | (with_reducible exact LeO.none _)
   | (with_reducible refine LeO.ite ?_ ?_)
   | (with_reducible refine LeO.bind ?_ (fun _ => ?_))
   | exact ih0 _ _
   | exact ih1 _ _ _ _ _
   | exact ih2 _ _ _ _ _ _
   | exact truantref02_Word.mono _ _
   | exact truantref03_Find.mono _ _ _
   | exact truantref03_Is.mono _ _ _
   | exact LeO.none _
   | refine LeO.ite ?_ ?_
   | refine LeO.bind ?_ (fun _ => ?_)
set_option maxHeartbeats 8000000 in
set_option maxRecDepth 100000 in
theorem truantref03_Check.calls (k : Nat) (A0 : Option Addr) (c0 : Nat) (l0 : List (S43)) (r1 : Int) (r2 : Int) (w : World) (hr0 : Kd.C k43 w A0 l0.length l0) (hc0 : l0.length ≤ c0) (h : truantref03_Check.f k l0 = some (r1, r2)) :
  Calls Try.prog 16 #[.slice A0 l0.length c0] w fun e w' => e = .returned (.tuple #[.int .i64 r1, .int .i64 r2]) ∧ Below w.heap.size w w' := by
 have hu43 := Try.underlying43
 have HR0 := Aside0.mk hr0
 have HC0 := Aside0.mk hc0
 clear hr0 hc0
 have HB := Aside0.mk (Below.refl w.heap.size w)
 have H : (if (l0.length : Int) > 12 then (some (0, 4)) else (truantref03_Check.l0 k l0 0)) = some (r1, r2) := h
 clear h
 by_cases c2 : (l0.length : Int) > 12
 ·rw [if_pos c2] at H
  have c2b0 : decide (12 < (l0.length : Int)) = true := decide_eq_true c2
  have c2b1 : decide (12 < l0.length) = true := decide_eq_true (by omega)
  clear c2
  simp only [Option.some.injEq, Prod.mk.injEq] at H
  obtain ⟨rfl, rfl⟩ := H
  go_enter Try.func16, Try.ntmps16
  go_wp2
  repeat (go_quiet (fail); try go_wp2)
  go_ret2
  exact ⟨by first | rfl | (simp [errW_none, errW_some] <;> rfl) | (simp [*, errW_none, errW_some] <;> rfl), by repeat (first | (with_reducible first | exact HB.out | apply below_alloc | apply pw_below_drewN | apply below_drew1) | exact HB.out)⟩
 ·rw [if_neg c2] at H
  have c2b0 : decide (12 < (l0.length : Int)) = false := decide_eq_false c2
  have c2b1 : decide (12 < l0.length) = false := decide_eq_false (by omega)
  clear c2
  have H' := Aside0.mk H
  clear H
  go_enter Try.func16, Try.ntmps16
  go_wp2
  repeat (go_quiet (fail); try go_wp2)
  go_loopg [4] k (fun kq v4 w' => ∃ (x4_1 : Int), v4 = .int .i64 x4_1 ∧ Aside0 (truantref03_Check.l0 kq l0 x4_1 = some (r1, r2)) ∧ Aside0 (kq ≤ k) ∧ Aside0 (Below w.heap.size w w'))
  case atStart => exact ⟨(0), (by first | rfl | (simp; done) | (simp [*]; done)), H', ⟨Nat.le_refl _⟩, ⟨by repeat (first | (with_reducible first | exact HB.out | apply below_alloc | apply pw_below_drewN | apply below_drew1) | exact HB.out)⟩⟩
  case round =>
   clear H'
   try clear c1
   try clear c2
   try clear c2b0
   try clear c2b1
   try clear p2
   obtain ⟨x4_1, rfl, HA, HK1, HB⟩ := hrel
   cases gk with
   | zero => exact absurd HA.out (by simp [truantref03_Check.l0])
   | succ k1 =>
    have H := HA.out
    clear HA
    simp only [truantref03_Check.l0] at H
    by_cases c3 : x4_1 < (l0.length : Int)
    ·rw [if_pos c3] at H
     have c3b0 : decide (x4_1 < (l0.length : Int)) = true := decide_eq_true c3
     clear c3
     by_cases c4 : 0 ≤ x4_1
     ·rw [if_pos c4] at H
      have c4b0 : decide (0 ≤ x4_1) = true := decide_eq_true c4
      clear c4
      replace H := Option.bind_eq_some_iff.mp H
      obtain ⟨t109, A50, H⟩ := H
      replace H : (if t109 = true then ((truantref03_Find.f k1 l0 ((rd_T43 l0 x4_1).f0)).bind fun t110 => (if t110 < x4_1 then (some (x4_1, 6)) else (if (((rd_T43 l0 x4_1).f1).length : Int) > 8 then (some (x4_1, 4)) else (truantref03_Check.l1 k1 l0 x4_1 0 ((rd_T43 l0 x4_1).f0) ((rd_T43 l0 x4_1).f1))))) else (some (x4_1, 1))) = some (r1, r2) := H
      have A5 := Aside0.mk A50
      clear A50
      by_cases c6 : t109 = true
      ·subst c6
       have H1 : ((truantref03_Find.f k1 l0 ((rd_T43 l0 x4_1).f0)).bind fun t110 => (if t110 < x4_1 then (some (x4_1, 6)) else (if (((rd_T43 l0 x4_1).f1).length : Int) > 8 then (some (x4_1, 4)) else (truantref03_Check.l1 k1 l0 x4_1 0 ((rd_T43 l0 x4_1).f0) ((rd_T43 l0 x4_1).f1))))) = some (r1, r2) := by rw [if_pos rfl] at H; exact H
       clear H
       have H := H1
       clear H1
       replace H := Option.bind_eq_some_iff.mp H
       obtain ⟨t110, A70, H⟩ := H
       replace H : (if t110 < x4_1 then (some (x4_1, 6)) else (if (((rd_T43 l0 x4_1).f1).length : Int) > 8 then (some (x4_1, 4)) else (truantref03_Check.l1 k1 l0 x4_1 0 ((rd_T43 l0 x4_1).f0) ((rd_T43 l0 x4_1).f1)))) = some (r1, r2) := H
       have A7 := Aside0.mk A70
       clear A70
       by_cases c8 : t110 < x4_1
       ·rw [if_pos c8] at H
        have c8b0 : decide (t110 < x4_1) = true := decide_eq_true c8
        clear c8
        simp only [Option.some.injEq, Prod.mk.injEq] at H
        obtain ⟨rfl, rfl⟩ := H
        have p107 : 0 ≤ (x4_1 : Int) := of_decide_eq_true (by first | (with_reducible assumption) | assumption)
        have q107 : x4_1 < (l0.length : Int) := of_decide_eq_true (by first | (with_reducible assumption) | assumption)
        obtain ⟨ad107, A107_1, c107_1, e107, hx107_0, hx107_1, hl107_1, hi107_1⟩ := at_T43 HR0.out x4_1 p107 q107
        cases e107
        replace hx107_0 := (HB.out.cell (World.block_lt_of_cell? w _ hx107_0)).trans hx107_0
        replace hx107_1 := (HB.out.cell (World.block_lt_of_cell? w _ hx107_1)).trans hx107_1
        have HR107_1 := Aside0.mk hi107_1
        have HC107_1 := Aside0.mk hl107_1
        clear hi107_1 hl107_1
        replace p107 := eq_true p107
        replace q107 := eq_true q107
        go_wp2_with (first | ((with_reducible refine gate_dst (N := 5) rfl ?_); refine box_event ?hg (N := 5) ?hd (cs := #[.string (⟨#[]⟩ : ByteArray), .slice none 0 0]) (t := 43) ?hr ?_; (case hd => rfl); (case hg => rfl); (case hr => first | (go_simp; done) | (go_simp; rfl)); intro gb108 hg w9 hbox hb; have n0_ := Aside0.mk (below_step (by repeat (first | (with_reducible first | exact HB.out | apply below_alloc | apply pw_below_drewN | apply below_drew1) | exact HB.out)) hb); have n1_ := Aside0.mk (hbox); have n2_ := Aside0.mk ((by rw [hg]; exact (below_size (by repeat (first | (with_reducible first | exact HB.out | apply below_alloc | apply pw_below_drewN | apply below_drew1) | exact HB.out))) : w.heap.size ≤ gb108)); have n3_ := Aside0.mk ((by rw [hg]; exact (below_size (by repeat (first | (with_reducible first | exact HB.out | apply below_alloc | apply pw_below_drewN | apply below_drew1) | exact HB.out))) : w.heap.size ≤ gb108)); clear HB; have HB := n0_; have BK108 := n1_; have GW108 := n2_; have GE108 := n3_; clear n0_ n1_ n2_ n3_; clear hb hbox hg; have hcz10_0 : w9.cell? ⟨gb108, 0, none⟩ = some (.string (⟨#[]⟩ : ByteArray)) := (blk_cell BK108.out 0).trans rfl; have hcz10_1 : w9.cell? ⟨gb108, 1, none⟩ = some (.slice none 0 0) := (blk_cell BK108.out 1).trans rfl; have hfz10_0 := blk_frozen BK108.out 0; have hfz10_1 := blk_frozen BK108.out 1) | (go_at_call 70; (with_reducible refine (truantref02_Word.calls k1 ((rd_T43 l0 x4_1).f0) true _ A5.out).mono ?_); rintro e w11 ⟨rfl, hb⟩; have n0_ := Aside0.mk (blk_below (g := gb108) (o := .cells #[.string ((rd_T43 l0 x4_1).f0), .slice A107_1 ((rd_T43 l0 x4_1).f1).length c107_1] 43 (0, 0)) (by (with_reducible repeat (first | refine blk_drewN ?_ _ | refine blk_drew ?_ | refine blk_alloc ?_ _)); refine blk_put (cs := #[.string ((rd_T43 l0 x4_1).f0), .slice none 0 0]) ?_ 1 _ rfl; (with_reducible repeat (first | refine blk_drewN ?_ _ | refine blk_drew ?_ | refine blk_alloc ?_ _)); refine blk_put (cs := #[.string (⟨#[]⟩ : ByteArray), .slice none 0 0]) ?_ 0 _ rfl; (with_reducible repeat (first | refine blk_drewN ?_ _ | refine blk_drew ?_ | refine blk_alloc ?_ _)); exact BK108.out) hb); have n1_ := Aside0.mk (below_step (by repeat (first | (with_reducible first | exact HB.out | apply below_alloc | apply pw_below_drewN | apply below_drew1 | refine below_set ?_ GE108.out) | exact HB.out)) hb); clear BK108; clear HB; have BK108 := n0_; have HB := n1_; clear n0_ n1_; (try clear hb); (try clear hb2); (try clear hk); (try clear hi); have hcz12_0 : w11.cell? ⟨gb108, 0, none⟩ = some (.string ((rd_T43 l0 x4_1).f0)) := (blk_cell BK108.out 0).trans rfl; have hcz12_1 : w11.cell? ⟨gb108, 1, none⟩ = some (.slice A107_1 ((rd_T43 l0 x4_1).f1).length c107_1) := (blk_cell BK108.out 1).trans rfl; have hfz12_0 := blk_frozen BK108.out 0; have hfz12_1 := blk_frozen BK108.out 1) | (go_at_call 19; (with_reducible refine (truantref03_Find.calls k1 _ _ l0 ((rd_T43 l0 x4_1).f0) t110 _ ?side1 ?side2 A7.out).mono ?_); (case side1 => repeat (first | exact (Kd.C_below HR0.out HB.out) | (with_reducible refine Kd.C_alloc ?_ _) | (with_reducible refine Kd.C_drewN ?_ _) | (with_reducible refine Kd.C_drew ?_))); (case side2 => exact HC0.out); rintro e w' ⟨rfl, ⟨nd, rfl⟩⟩; (try first | exact ⟨rfl, _, World.drewN_drewN _ _ _⟩ | exact ⟨rfl, _, Eq.trans (World.drewN_drewN _ _ _) (congrArg (World.drewN _) (Nat.add_assoc _ _ _))⟩)))
        repeat (go_quiet (first | ((with_reducible refine gate_dst (N := 5) rfl ?_); refine box_event ?hg (N := 5) ?hd (cs := #[.string (⟨#[]⟩ : ByteArray), .slice none 0 0]) (t := 43) ?hr ?_; (case hd => rfl); (case hg => rfl); (case hr => first | (go_simp; done) | (go_simp; rfl)); intro gb108 hg w9 hbox hb; have n0_ := Aside0.mk (below_step (by repeat (first | (with_reducible first | exact HB.out | apply below_alloc | apply pw_below_drewN | apply below_drew1) | exact HB.out)) hb); have n1_ := Aside0.mk (hbox); have n2_ := Aside0.mk ((by rw [hg]; exact (below_size (by repeat (first | (with_reducible first | exact HB.out | apply below_alloc | apply pw_below_drewN | apply below_drew1) | exact HB.out))) : w.heap.size ≤ gb108)); have n3_ := Aside0.mk ((by rw [hg]; exact (below_size (by repeat (first | (with_reducible first | exact HB.out | apply below_alloc | apply pw_below_drewN | apply below_drew1) | exact HB.out))) : w.heap.size ≤ gb108)); clear HB; have HB := n0_; have BK108 := n1_; have GW108 := n2_; have GE108 := n3_; clear n0_ n1_ n2_ n3_; clear hb hbox hg; have hcz10_0 : w9.cell? ⟨gb108, 0, none⟩ = some (.string (⟨#[]⟩ : ByteArray)) := (blk_cell BK108.out 0).trans rfl; have hcz10_1 : w9.cell? ⟨gb108, 1, none⟩ = some (.slice none 0 0) := (blk_cell BK108.out 1).trans rfl; have hfz10_0 := blk_frozen BK108.out 0; have hfz10_1 := blk_frozen BK108.out 1) | (go_at_call 70; (with_reducible refine (truantref02_Word.calls k1 ((rd_T43 l0 x4_1).f0) true _ A5.out).mono ?_); clear A5; rintro e w11 ⟨rfl, hb⟩; have n0_ := Aside0.mk (blk_below (g := gb108) (o := .cells #[.string ((rd_T43 l0 x4_1).f0), .slice A107_1 ((rd_T43 l0 x4_1).f1).length c107_1] 43 (0, 0)) (by (with_reducible repeat (first | refine blk_drewN ?_ _ | refine blk_drew ?_ | refine blk_alloc ?_ _)); refine blk_put (cs := #[.string ((rd_T43 l0 x4_1).f0), .slice none 0 0]) ?_ 1 _ rfl; (with_reducible repeat (first | refine blk_drewN ?_ _ | refine blk_drew ?_ | refine blk_alloc ?_ _)); refine blk_put (cs := #[.string (⟨#[]⟩ : ByteArray), .slice none 0 0]) ?_ 0 _ rfl; (with_reducible repeat (first | refine blk_drewN ?_ _ | refine blk_drew ?_ | refine blk_alloc ?_ _)); exact BK108.out) hb); have n1_ := Aside0.mk (below_step (by repeat (first | (with_reducible first | exact HB.out | apply below_alloc | apply pw_below_drewN | apply below_drew1 | refine below_set ?_ GE108.out) | exact HB.out)) hb); clear BK108; clear HB; have BK108 := n0_; have HB := n1_; clear n0_ n1_; (try clear hb); (try clear hb2); (try clear hk); (try clear hi); have hcz12_0 : w11.cell? ⟨gb108, 0, none⟩ = some (.string ((rd_T43 l0 x4_1).f0)) := (blk_cell BK108.out 0).trans rfl; have hcz12_1 : w11.cell? ⟨gb108, 1, none⟩ = some (.slice A107_1 ((rd_T43 l0 x4_1).f1).length c107_1) := (blk_cell BK108.out 1).trans rfl; have hfz12_0 := blk_frozen BK108.out 0; have hfz12_1 := blk_frozen BK108.out 1) | (go_at_call 19; (with_reducible refine (truantref03_Find.calls k1 _ _ l0 ((rd_T43 l0 x4_1).f0) t110 _ ?side1 ?side2 A7.out).mono ?_); clear A7; (case side1 => repeat (first | exact (Kd.C_below HR0.out HB.out) | (with_reducible refine Kd.C_alloc ?_ _) | (with_reducible refine Kd.C_drewN ?_ _) | (with_reducible refine Kd.C_drew ?_))); (case side2 => exact HC0.out); rintro e w' ⟨rfl, ⟨nd, rfl⟩⟩; (try first | exact ⟨rfl, _, World.drewN_drewN _ _ _⟩ | exact ⟨rfl, _, Eq.trans (World.drewN_drewN _ _ _) (congrArg (World.drewN _) (Nat.add_assoc _ _ _))⟩))); try go_wp2_with (first | ((with_reducible refine gate_dst (N := 5) rfl ?_); refine box_event ?hg (N := 5) ?hd (cs := #[.string (⟨#[]⟩ : ByteArray), .slice none 0 0]) (t := 43) ?hr ?_; (case hd => rfl); (case hg => rfl); (case hr => first | (go_simp; done) | (go_simp; rfl)); intro gb108 hg w9 hbox hb; have n0_ := Aside0.mk (below_step (by repeat (first | (with_reducible first | exact HB.out | apply below_alloc | apply pw_below_drewN | apply below_drew1) | exact HB.out)) hb); have n1_ := Aside0.mk (hbox); have n2_ := Aside0.mk ((by rw [hg]; exact (below_size (by repeat (first | (with_reducible first | exact HB.out | apply below_alloc | apply pw_below_drewN | apply below_drew1) | exact HB.out))) : w.heap.size ≤ gb108)); have n3_ := Aside0.mk ((by rw [hg]; exact (below_size (by repeat (first | (with_reducible first | exact HB.out | apply below_alloc | apply pw_below_drewN | apply below_drew1) | exact HB.out))) : w.heap.size ≤ gb108)); clear HB; have HB := n0_; have BK108 := n1_; have GW108 := n2_; have GE108 := n3_; clear n0_ n1_ n2_ n3_; clear hb hbox hg; have hcz10_0 : w9.cell? ⟨gb108, 0, none⟩ = some (.string (⟨#[]⟩ : ByteArray)) := (blk_cell BK108.out 0).trans rfl; have hcz10_1 : w9.cell? ⟨gb108, 1, none⟩ = some (.slice none 0 0) := (blk_cell BK108.out 1).trans rfl; have hfz10_0 := blk_frozen BK108.out 0; have hfz10_1 := blk_frozen BK108.out 1) | (go_at_call 70; (with_reducible refine (truantref02_Word.calls k1 ((rd_T43 l0 x4_1).f0) true _ A5.out).mono ?_); clear A5; rintro e w11 ⟨rfl, hb⟩; have n0_ := Aside0.mk (blk_below (g := gb108) (o := .cells #[.string ((rd_T43 l0 x4_1).f0), .slice A107_1 ((rd_T43 l0 x4_1).f1).length c107_1] 43 (0, 0)) (by (with_reducible repeat (first | refine blk_drewN ?_ _ | refine blk_drew ?_ | refine blk_alloc ?_ _)); refine blk_put (cs := #[.string ((rd_T43 l0 x4_1).f0), .slice none 0 0]) ?_ 1 _ rfl; (with_reducible repeat (first | refine blk_drewN ?_ _ | refine blk_drew ?_ | refine blk_alloc ?_ _)); refine blk_put (cs := #[.string (⟨#[]⟩ : ByteArray), .slice none 0 0]) ?_ 0 _ rfl; (with_reducible repeat (first | refine blk_drewN ?_ _ | refine blk_drew ?_ | refine blk_alloc ?_ _)); exact BK108.out) hb); have n1_ := Aside0.mk (below_step (by repeat (first | (with_reducible first | exact HB.out | apply below_alloc | apply pw_below_drewN | apply below_drew1 | refine below_set ?_ GE108.out) | exact HB.out)) hb); clear BK108; clear HB; have BK108 := n0_; have HB := n1_; clear n0_ n1_; (try clear hb); (try clear hb2); (try clear hk); (try clear hi); have hcz12_0 : w11.cell? ⟨gb108, 0, none⟩ = some (.string ((rd_T43 l0 x4_1).f0)) := (blk_cell BK108.out 0).trans rfl; have hcz12_1 : w11.cell? ⟨gb108, 1, none⟩ = some (.slice A107_1 ((rd_T43 l0 x4_1).f1).length c107_1) := (blk_cell BK108.out 1).trans rfl; have hfz12_0 := blk_frozen BK108.out 0; have hfz12_1 := blk_frozen BK108.out 1) | (go_at_call 19; (with_reducible refine (truantref03_Find.calls k1 _ _ l0 ((rd_T43 l0 x4_1).f0) t110 _ ?side1 ?side2 A7.out).mono ?_); clear A7; (case side1 => repeat (first | exact (Kd.C_below HR0.out HB.out) | (with_reducible refine Kd.C_alloc ?_ _) | (with_reducible refine Kd.C_drewN ?_ _) | (with_reducible refine Kd.C_drew ?_))); (case side2 => exact HC0.out); rintro e w' ⟨rfl, ⟨nd, rfl⟩⟩; (try first | exact ⟨rfl, _, World.drewN_drewN _ _ _⟩ | exact ⟨rfl, _, Eq.trans (World.drewN_drewN _ _ _) (congrArg (World.drewN _) (Nat.add_assoc _ _ _))⟩))))
        go_ret2
        exact ⟨by first | rfl | (simp [errW_none, errW_some] <;> rfl) | (simp [*, errW_none, errW_some] <;> rfl), by repeat (first | (with_reducible first | exact HB.out | apply below_alloc | apply pw_below_drewN | apply below_drew1 | refine below_set ?_ GE108.out) | exact HB.out)⟩
       ·rw [if_neg c8] at H
        have c8b0 : decide (t110 < x4_1) = false := decide_eq_false c8
        clear c8
        by_cases c13 : (((rd_T43 l0 x4_1).f1).length : Int) > 8
        ·rw [if_pos c13] at H
         have c13b0 : decide (8 < (((rd_T43 l0 x4_1).f1).length : Int)) = true := decide_eq_true c13
         have c13b1 : decide (8 < ((rd_T43 l0 x4_1).f1).length) = true := decide_eq_true (by omega)
         clear c13
         simp only [Option.some.injEq, Prod.mk.injEq] at H
         obtain ⟨rfl, rfl⟩ := H
         have p107 : 0 ≤ (x4_1 : Int) := of_decide_eq_true (by first | (with_reducible assumption) | assumption)
         have q107 : x4_1 < (l0.length : Int) := of_decide_eq_true (by first | (with_reducible assumption) | assumption)
         obtain ⟨ad107, A107_1, c107_1, e107, hx107_0, hx107_1, hl107_1, hi107_1⟩ := at_T43 HR0.out x4_1 p107 q107
         cases e107
         replace hx107_0 := (HB.out.cell (World.block_lt_of_cell? w _ hx107_0)).trans hx107_0
         replace hx107_1 := (HB.out.cell (World.block_lt_of_cell? w _ hx107_1)).trans hx107_1
         have HR107_1 := Aside0.mk hi107_1
         have HC107_1 := Aside0.mk hl107_1
         clear hi107_1 hl107_1
         replace p107 := eq_true p107
         replace q107 := eq_true q107
         go_wp2_with (first | ((with_reducible refine gate_dst (N := 5) rfl ?_); refine box_event ?hg (N := 5) ?hd (cs := #[.string (⟨#[]⟩ : ByteArray), .slice none 0 0]) (t := 43) ?hr ?_; (case hd => rfl); (case hg => rfl); (case hr => first | (go_simp; done) | (go_simp; rfl)); intro gb108 hg w14 hbox hb; have n0_ := Aside0.mk (below_step (by repeat (first | (with_reducible first | exact HB.out | apply below_alloc | apply pw_below_drewN | apply below_drew1) | exact HB.out)) hb); have n1_ := Aside0.mk (hbox); have n2_ := Aside0.mk ((by rw [hg]; exact (below_size (by repeat (first | (with_reducible first | exact HB.out | apply below_alloc | apply pw_below_drewN | apply below_drew1) | exact HB.out))) : w.heap.size ≤ gb108)); have n3_ := Aside0.mk ((by rw [hg]; exact (below_size (by repeat (first | (with_reducible first | exact HB.out | apply below_alloc | apply pw_below_drewN | apply below_drew1) | exact HB.out))) : w.heap.size ≤ gb108)); clear HB; have HB := n0_; have BK108 := n1_; have GW108 := n2_; have GE108 := n3_; clear n0_ n1_ n2_ n3_; clear hb hbox hg; have hcz15_0 : w14.cell? ⟨gb108, 0, none⟩ = some (.string (⟨#[]⟩ : ByteArray)) := (blk_cell BK108.out 0).trans rfl; have hcz15_1 : w14.cell? ⟨gb108, 1, none⟩ = some (.slice none 0 0) := (blk_cell BK108.out 1).trans rfl; have hfz15_0 := blk_frozen BK108.out 0; have hfz15_1 := blk_frozen BK108.out 1) | (go_at_call 70; (with_reducible refine (truantref02_Word.calls k1 ((rd_T43 l0 x4_1).f0) true _ A5.out).mono ?_); rintro e w16 ⟨rfl, hb⟩; have n0_ := Aside0.mk (blk_below (g := gb108) (o := .cells #[.string ((rd_T43 l0 x4_1).f0), .slice A107_1 ((rd_T43 l0 x4_1).f1).length c107_1] 43 (0, 0)) (by (with_reducible repeat (first | refine blk_drewN ?_ _ | refine blk_drew ?_ | refine blk_alloc ?_ _)); refine blk_put (cs := #[.string ((rd_T43 l0 x4_1).f0), .slice none 0 0]) ?_ 1 _ rfl; (with_reducible repeat (first | refine blk_drewN ?_ _ | refine blk_drew ?_ | refine blk_alloc ?_ _)); refine blk_put (cs := #[.string (⟨#[]⟩ : ByteArray), .slice none 0 0]) ?_ 0 _ rfl; (with_reducible repeat (first | refine blk_drewN ?_ _ | refine blk_drew ?_ | refine blk_alloc ?_ _)); exact BK108.out) hb); have n1_ := Aside0.mk (below_step (by repeat (first | (with_reducible first | exact HB.out | apply below_alloc | apply pw_below_drewN | apply below_drew1 | refine below_set ?_ GE108.out) | exact HB.out)) hb); clear BK108; clear HB; have BK108 := n0_; have HB := n1_; clear n0_ n1_; (try clear hb); (try clear hb2); (try clear hk); (try clear hi); have hcz17_0 : w16.cell? ⟨gb108, 0, none⟩ = some (.string ((rd_T43 l0 x4_1).f0)) := (blk_cell BK108.out 0).trans rfl; have hcz17_1 : w16.cell? ⟨gb108, 1, none⟩ = some (.slice A107_1 ((rd_T43 l0 x4_1).f1).length c107_1) := (blk_cell BK108.out 1).trans rfl; have hfz17_0 := blk_frozen BK108.out 0; have hfz17_1 := blk_frozen BK108.out 1) | (go_at_call 19; (with_reducible refine (truantref03_Find.calls k1 _ _ l0 ((rd_T43 l0 x4_1).f0) t110 _ ?side1 ?side2 A7.out).mono ?_); (case side1 => repeat (first | exact (Kd.C_below HR0.out HB.out) | (with_reducible refine Kd.C_alloc ?_ _) | (with_reducible refine Kd.C_drewN ?_ _) | (with_reducible refine Kd.C_drew ?_))); (case side2 => exact HC0.out); rintro e w' ⟨rfl, ⟨nd, rfl⟩⟩; (try first | exact ⟨rfl, _, World.drewN_drewN _ _ _⟩ | exact ⟨rfl, _, Eq.trans (World.drewN_drewN _ _ _) (congrArg (World.drewN _) (Nat.add_assoc _ _ _))⟩)))
         repeat (go_quiet (first | ((with_reducible refine gate_dst (N := 5) rfl ?_); refine box_event ?hg (N := 5) ?hd (cs := #[.string (⟨#[]⟩ : ByteArray), .slice none 0 0]) (t := 43) ?hr ?_; (case hd => rfl); (case hg => rfl); (case hr => first | (go_simp; done) | (go_simp; rfl)); intro gb108 hg w14 hbox hb; have n0_ := Aside0.mk (below_step (by repeat (first | (with_reducible first | exact HB.out | apply below_alloc | apply pw_below_drewN | apply below_drew1) | exact HB.out)) hb); have n1_ := Aside0.mk (hbox); have n2_ := Aside0.mk ((by rw [hg]; exact (below_size (by repeat (first | (with_reducible first | exact HB.out | apply below_alloc | apply pw_below_drewN | apply below_drew1) | exact HB.out))) : w.heap.size ≤ gb108)); have n3_ := Aside0.mk ((by rw [hg]; exact (below_size (by repeat (first | (with_reducible first | exact HB.out | apply below_alloc | apply pw_below_drewN | apply below_drew1) | exact HB.out))) : w.heap.size ≤ gb108)); clear HB; have HB := n0_; have BK108 := n1_; have GW108 := n2_; have GE108 := n3_; clear n0_ n1_ n2_ n3_; clear hb hbox hg; have hcz15_0 : w14.cell? ⟨gb108, 0, none⟩ = some (.string (⟨#[]⟩ : ByteArray)) := (blk_cell BK108.out 0).trans rfl; have hcz15_1 : w14.cell? ⟨gb108, 1, none⟩ = some (.slice none 0 0) := (blk_cell BK108.out 1).trans rfl; have hfz15_0 := blk_frozen BK108.out 0; have hfz15_1 := blk_frozen BK108.out 1) | (go_at_call 70; (with_reducible refine (truantref02_Word.calls k1 ((rd_T43 l0 x4_1).f0) true _ A5.out).mono ?_); clear A5; rintro e w16 ⟨rfl, hb⟩; have n0_ := Aside0.mk (blk_below (g := gb108) (o := .cells #[.string ((rd_T43 l0 x4_1).f0), .slice A107_1 ((rd_T43 l0 x4_1).f1).length c107_1] 43 (0, 0)) (by (with_reducible repeat (first | refine blk_drewN ?_ _ | refine blk_drew ?_ | refine blk_alloc ?_ _)); refine blk_put (cs := #[.string ((rd_T43 l0 x4_1).f0), .slice none 0 0]) ?_ 1 _ rfl; (with_reducible repeat (first | refine blk_drewN ?_ _ | refine blk_drew ?_ | refine blk_alloc ?_ _)); refine blk_put (cs := #[.string (⟨#[]⟩ : ByteArray), .slice none 0 0]) ?_ 0 _ rfl; (with_reducible repeat (first | refine blk_drewN ?_ _ | refine blk_drew ?_ | refine blk_alloc ?_ _)); exact BK108.out) hb); have n1_ := Aside0.mk (below_step (by repeat (first | (with_reducible first | exact HB.out | apply below_alloc | apply pw_below_drewN | apply below_drew1 | refine below_set ?_ GE108.out) | exact HB.out)) hb); clear BK108; clear HB; have BK108 := n0_; have HB := n1_; clear n0_ n1_; (try clear hb); (try clear hb2); (try clear hk); (try clear hi); have hcz17_0 : w16.cell? ⟨gb108, 0, none⟩ = some (.string ((rd_T43 l0 x4_1).f0)) := (blk_cell BK108.out 0).trans rfl; have hcz17_1 : w16.cell? ⟨gb108, 1, none⟩ = some (.slice A107_1 ((rd_T43 l0 x4_1).f1).length c107_1) := (blk_cell BK108.out 1).trans rfl; have hfz17_0 := blk_frozen BK108.out 0; have hfz17_1 := blk_frozen BK108.out 1) | (go_at_call 19; (with_reducible refine (truantref03_Find.calls k1 _ _ l0 ((rd_T43 l0 x4_1).f0) t110 _ ?side1 ?side2 A7.out).mono ?_); clear A7; (case side1 => repeat (first | exact (Kd.C_below HR0.out HB.out) | (with_reducible refine Kd.C_alloc ?_ _) | (with_reducible refine Kd.C_drewN ?_ _) | (with_reducible refine Kd.C_drew ?_))); (case side2 => exact HC0.out); rintro e w' ⟨rfl, ⟨nd, rfl⟩⟩; (try first | exact ⟨rfl, _, World.drewN_drewN _ _ _⟩ | exact ⟨rfl, _, Eq.trans (World.drewN_drewN _ _ _) (congrArg (World.drewN _) (Nat.add_assoc _ _ _))⟩))); try go_wp2_with (first | ((with_reducible refine gate_dst (N := 5) rfl ?_); refine box_event ?hg (N := 5) ?hd (cs := #[.string (⟨#[]⟩ : ByteArray), .slice none 0 0]) (t := 43) ?hr ?_; (case hd => rfl); (case hg => rfl); (case hr => first | (go_simp; done) | (go_simp; rfl)); intro gb108 hg w14 hbox hb; have n0_ := Aside0.mk (below_step (by repeat (first | (with_reducible first | exact HB.out | apply below_alloc | apply pw_below_drewN | apply below_drew1) | exact HB.out)) hb); have n1_ := Aside0.mk (hbox); have n2_ := Aside0.mk ((by rw [hg]; exact (below_size (by repeat (first | (with_reducible first | exact HB.out | apply below_alloc | apply pw_below_drewN | apply below_drew1) | exact HB.out))) : w.heap.size ≤ gb108)); have n3_ := Aside0.mk ((by rw [hg]; exact (below_size (by repeat (first | (with_reducible first | exact HB.out | apply below_alloc | apply pw_below_drewN | apply below_drew1) | exact HB.out))) : w.heap.size ≤ gb108)); clear HB; have HB := n0_; have BK108 := n1_; have GW108 := n2_; have GE108 := n3_; clear n0_ n1_ n2_ n3_; clear hb hbox hg; have hcz15_0 : w14.cell? ⟨gb108, 0, none⟩ = some (.string (⟨#[]⟩ : ByteArray)) := (blk_cell BK108.out 0).trans rfl; have hcz15_1 : w14.cell? ⟨gb108, 1, none⟩ = some (.slice none 0 0) := (blk_cell BK108.out 1).trans rfl; have hfz15_0 := blk_frozen BK108.out 0; have hfz15_1 := blk_frozen BK108.out 1) | (go_at_call 70; (with_reducible refine (truantref02_Word.calls k1 ((rd_T43 l0 x4_1).f0) true _ A5.out).mono ?_); clear A5; rintro e w16 ⟨rfl, hb⟩; have n0_ := Aside0.mk (blk_below (g := gb108) (o := .cells #[.string ((rd_T43 l0 x4_1).f0), .slice A107_1 ((rd_T43 l0 x4_1).f1).length c107_1] 43 (0, 0)) (by (with_reducible repeat (first | refine blk_drewN ?_ _ | refine blk_drew ?_ | refine blk_alloc ?_ _)); refine blk_put (cs := #[.string ((rd_T43 l0 x4_1).f0), .slice none 0 0]) ?_ 1 _ rfl; (with_reducible repeat (first | refine blk_drewN ?_ _ | refine blk_drew ?_ | refine blk_alloc ?_ _)); refine blk_put (cs := #[.string (⟨#[]⟩ : ByteArray), .slice none 0 0]) ?_ 0 _ rfl; (with_reducible repeat (first | refine blk_drewN ?_ _ | refine blk_drew ?_ | refine blk_alloc ?_ _)); exact BK108.out) hb); have n1_ := Aside0.mk (below_step (by repeat (first | (with_reducible first | exact HB.out | apply below_alloc | apply pw_below_drewN | apply below_drew1 | refine below_set ?_ GE108.out) | exact HB.out)) hb); clear BK108; clear HB; have BK108 := n0_; have HB := n1_; clear n0_ n1_; (try clear hb); (try clear hb2); (try clear hk); (try clear hi); have hcz17_0 : w16.cell? ⟨gb108, 0, none⟩ = some (.string ((rd_T43 l0 x4_1).f0)) := (blk_cell BK108.out 0).trans rfl; have hcz17_1 : w16.cell? ⟨gb108, 1, none⟩ = some (.slice A107_1 ((rd_T43 l0 x4_1).f1).length c107_1) := (blk_cell BK108.out 1).trans rfl; have hfz17_0 := blk_frozen BK108.out 0; have hfz17_1 := blk_frozen BK108.out 1) | (go_at_call 19; (with_reducible refine (truantref03_Find.calls k1 _ _ l0 ((rd_T43 l0 x4_1).f0) t110 _ ?side1 ?side2 A7.out).mono ?_); clear A7; (case side1 => repeat (first | exact (Kd.C_below HR0.out HB.out) | (with_reducible refine Kd.C_alloc ?_ _) | (with_reducible refine Kd.C_drewN ?_ _) | (with_reducible refine Kd.C_drew ?_))); (case side2 => exact HC0.out); rintro e w' ⟨rfl, ⟨nd, rfl⟩⟩; (try first | exact ⟨rfl, _, World.drewN_drewN _ _ _⟩ | exact ⟨rfl, _, Eq.trans (World.drewN_drewN _ _ _) (congrArg (World.drewN _) (Nat.add_assoc _ _ _))⟩))))
         go_ret2
         exact ⟨by first | rfl | (simp [errW_none, errW_some] <;> rfl) | (simp [*, errW_none, errW_some] <;> rfl), by repeat (first | (with_reducible first | exact HB.out | apply below_alloc | apply pw_below_drewN | apply below_drew1 | refine below_set ?_ GE108.out) | exact HB.out)⟩
        ·rw [if_neg c13] at H
         have c13b0 : decide (8 < (((rd_T43 l0 x4_1).f1).length : Int)) = false := decide_eq_false c13
         have c13b1 : decide (8 < ((rd_T43 l0 x4_1).f1).length) = false := decide_eq_false (by omega)
         clear c13
         have H' := Aside0.mk H
         clear H
         have p107 : 0 ≤ (x4_1 : Int) := of_decide_eq_true (by first | (with_reducible assumption) | assumption)
         have q107 : x4_1 < (l0.length : Int) := of_decide_eq_true (by first | (with_reducible assumption) | assumption)
         obtain ⟨ad107, A107_1, c107_1, e107, hx107_0, hx107_1, hl107_1, hi107_1⟩ := at_T43 HR0.out x4_1 p107 q107
         cases e107
         replace hx107_0 := (HB.out.cell (World.block_lt_of_cell? w _ hx107_0)).trans hx107_0
         replace hx107_1 := (HB.out.cell (World.block_lt_of_cell? w _ hx107_1)).trans hx107_1
         have HR107_1 := Aside0.mk hi107_1
         have HC107_1 := Aside0.mk hl107_1
         clear hi107_1 hl107_1
         replace p107 := eq_true p107
         replace q107 := eq_true q107
         go_wp2_with (first | ((with_reducible refine gate_dst (N := 5) rfl ?_); refine box_event ?hg (N := 5) ?hd (cs := #[.string (⟨#[]⟩ : ByteArray), .slice none 0 0]) (t := 43) ?hr ?_; (case hd => rfl); (case hg => rfl); (case hr => first | (go_simp; done) | (go_simp; rfl)); intro gb108 hg w18 hbox hb; have n0_ := Aside0.mk (below_step (by repeat (first | (with_reducible first | exact HB.out | apply below_alloc | apply pw_below_drewN | apply below_drew1) | exact HB.out)) hb); have n1_ := Aside0.mk (hbox); have n2_ := Aside0.mk ((by rw [hg]; exact (below_size (by repeat (first | (with_reducible first | exact HB.out | apply below_alloc | apply pw_below_drewN | apply below_drew1) | exact HB.out))) : w.heap.size ≤ gb108)); have n3_ := Aside0.mk ((by rw [hg]; exact (below_size (by repeat (first | (with_reducible first | exact HB.out | apply below_alloc | apply pw_below_drewN | apply below_drew1) | exact HB.out))) : w.heap.size ≤ gb108)); clear HB; have HB := n0_; have BK108 := n1_; have GW108 := n2_; have GE108 := n3_; clear n0_ n1_ n2_ n3_; clear hb hbox hg; have hcz19_0 : w18.cell? ⟨gb108, 0, none⟩ = some (.string (⟨#[]⟩ : ByteArray)) := (blk_cell BK108.out 0).trans rfl; have hcz19_1 : w18.cell? ⟨gb108, 1, none⟩ = some (.slice none 0 0) := (blk_cell BK108.out 1).trans rfl; have hfz19_0 := blk_frozen BK108.out 0; have hfz19_1 := blk_frozen BK108.out 1) | (go_at_call 70; (with_reducible refine (truantref02_Word.calls k1 ((rd_T43 l0 x4_1).f0) true _ A5.out).mono ?_); rintro e w20 ⟨rfl, hb⟩; have n0_ := Aside0.mk (blk_below (g := gb108) (o := .cells #[.string ((rd_T43 l0 x4_1).f0), .slice A107_1 ((rd_T43 l0 x4_1).f1).length c107_1] 43 (0, 0)) (by (with_reducible repeat (first | refine blk_drewN ?_ _ | refine blk_drew ?_ | refine blk_alloc ?_ _)); refine blk_put (cs := #[.string ((rd_T43 l0 x4_1).f0), .slice none 0 0]) ?_ 1 _ rfl; (with_reducible repeat (first | refine blk_drewN ?_ _ | refine blk_drew ?_ | refine blk_alloc ?_ _)); refine blk_put (cs := #[.string (⟨#[]⟩ : ByteArray), .slice none 0 0]) ?_ 0 _ rfl; (with_reducible repeat (first | refine blk_drewN ?_ _ | refine blk_drew ?_ | refine blk_alloc ?_ _)); exact BK108.out) hb); have n1_ := Aside0.mk (below_step (by repeat (first | (with_reducible first | exact HB.out | apply below_alloc | apply pw_below_drewN | apply below_drew1 | refine below_set ?_ GE108.out) | exact HB.out)) hb); clear BK108; clear HB; have BK108 := n0_; have HB := n1_; clear n0_ n1_; (try clear hb); (try clear hb2); (try clear hk); (try clear hi); have hcz21_0 : w20.cell? ⟨gb108, 0, none⟩ = some (.string ((rd_T43 l0 x4_1).f0)) := (blk_cell BK108.out 0).trans rfl; have hcz21_1 : w20.cell? ⟨gb108, 1, none⟩ = some (.slice A107_1 ((rd_T43 l0 x4_1).f1).length c107_1) := (blk_cell BK108.out 1).trans rfl; have hfz21_0 := blk_frozen BK108.out 0; have hfz21_1 := blk_frozen BK108.out 1) | (go_at_call 19; (with_reducible refine (truantref03_Find.calls k1 _ _ l0 ((rd_T43 l0 x4_1).f0) t110 _ ?side1 ?side2 A7.out).mono ?_); (case side1 => repeat (first | exact (Kd.C_below HR0.out HB.out) | (with_reducible refine Kd.C_alloc ?_ _) | (with_reducible refine Kd.C_drewN ?_ _) | (with_reducible refine Kd.C_drew ?_))); (case side2 => exact HC0.out); rintro e w' ⟨rfl, ⟨nd, rfl⟩⟩; (try first | exact ⟨rfl, _, World.drewN_drewN _ _ _⟩ | exact ⟨rfl, _, Eq.trans (World.drewN_drewN _ _ _) (congrArg (World.drewN _) (Nat.add_assoc _ _ _))⟩)))
         repeat (go_quiet (first | ((with_reducible refine gate_dst (N := 5) rfl ?_); refine box_event ?hg (N := 5) ?hd (cs := #[.string (⟨#[]⟩ : ByteArray), .slice none 0 0]) (t := 43) ?hr ?_; (case hd => rfl); (case hg => rfl); (case hr => first | (go_simp; done) | (go_simp; rfl)); intro gb108 hg w18 hbox hb; have n0_ := Aside0.mk (below_step (by repeat (first | (with_reducible first | exact HB.out | apply below_alloc | apply pw_below_drewN | apply below_drew1) | exact HB.out)) hb); have n1_ := Aside0.mk (hbox); have n2_ := Aside0.mk ((by rw [hg]; exact (below_size (by repeat (first | (with_reducible first | exact HB.out | apply below_alloc | apply pw_below_drewN | apply below_drew1) | exact HB.out))) : w.heap.size ≤ gb108)); have n3_ := Aside0.mk ((by rw [hg]; exact (below_size (by repeat (first | (with_reducible first | exact HB.out | apply below_alloc | apply pw_below_drewN | apply below_drew1) | exact HB.out))) : w.heap.size ≤ gb108)); clear HB; have HB := n0_; have BK108 := n1_; have GW108 := n2_; have GE108 := n3_; clear n0_ n1_ n2_ n3_; clear hb hbox hg; have hcz19_0 : w18.cell? ⟨gb108, 0, none⟩ = some (.string (⟨#[]⟩ : ByteArray)) := (blk_cell BK108.out 0).trans rfl; have hcz19_1 : w18.cell? ⟨gb108, 1, none⟩ = some (.slice none 0 0) := (blk_cell BK108.out 1).trans rfl; have hfz19_0 := blk_frozen BK108.out 0; have hfz19_1 := blk_frozen BK108.out 1) | (go_at_call 70; (with_reducible refine (truantref02_Word.calls k1 ((rd_T43 l0 x4_1).f0) true _ A5.out).mono ?_); clear A5; rintro e w20 ⟨rfl, hb⟩; have n0_ := Aside0.mk (blk_below (g := gb108) (o := .cells #[.string ((rd_T43 l0 x4_1).f0), .slice A107_1 ((rd_T43 l0 x4_1).f1).length c107_1] 43 (0, 0)) (by (with_reducible repeat (first | refine blk_drewN ?_ _ | refine blk_drew ?_ | refine blk_alloc ?_ _)); refine blk_put (cs := #[.string ((rd_T43 l0 x4_1).f0), .slice none 0 0]) ?_ 1 _ rfl; (with_reducible repeat (first | refine blk_drewN ?_ _ | refine blk_drew ?_ | refine blk_alloc ?_ _)); refine blk_put (cs := #[.string (⟨#[]⟩ : ByteArray), .slice none 0 0]) ?_ 0 _ rfl; (with_reducible repeat (first | refine blk_drewN ?_ _ | refine blk_drew ?_ | refine blk_alloc ?_ _)); exact BK108.out) hb); have n1_ := Aside0.mk (below_step (by repeat (first | (with_reducible first | exact HB.out | apply below_alloc | apply pw_below_drewN | apply below_drew1 | refine below_set ?_ GE108.out) | exact HB.out)) hb); clear BK108; clear HB; have BK108 := n0_; have HB := n1_; clear n0_ n1_; (try clear hb); (try clear hb2); (try clear hk); (try clear hi); have hcz21_0 : w20.cell? ⟨gb108, 0, none⟩ = some (.string ((rd_T43 l0 x4_1).f0)) := (blk_cell BK108.out 0).trans rfl; have hcz21_1 : w20.cell? ⟨gb108, 1, none⟩ = some (.slice A107_1 ((rd_T43 l0 x4_1).f1).length c107_1) := (blk_cell BK108.out 1).trans rfl; have hfz21_0 := blk_frozen BK108.out 0; have hfz21_1 := blk_frozen BK108.out 1) | (go_at_call 19; (with_reducible refine (truantref03_Find.calls k1 _ _ l0 ((rd_T43 l0 x4_1).f0) t110 _ ?side1 ?side2 A7.out).mono ?_); clear A7; (case side1 => repeat (first | exact (Kd.C_below HR0.out HB.out) | (with_reducible refine Kd.C_alloc ?_ _) | (with_reducible refine Kd.C_drewN ?_ _) | (with_reducible refine Kd.C_drew ?_))); (case side2 => exact HC0.out); rintro e w' ⟨rfl, ⟨nd, rfl⟩⟩; (try first | exact ⟨rfl, _, World.drewN_drewN _ _ _⟩ | exact ⟨rfl, _, Eq.trans (World.drewN_drewN _ _ _) (congrArg (World.drewN _) (Nat.add_assoc _ _ _))⟩))); try go_wp2_with (first | ((with_reducible refine gate_dst (N := 5) rfl ?_); refine box_event ?hg (N := 5) ?hd (cs := #[.string (⟨#[]⟩ : ByteArray), .slice none 0 0]) (t := 43) ?hr ?_; (case hd => rfl); (case hg => rfl); (case hr => first | (go_simp; done) | (go_simp; rfl)); intro gb108 hg w18 hbox hb; have n0_ := Aside0.mk (below_step (by repeat (first | (with_reducible first | exact HB.out | apply below_alloc | apply pw_below_drewN | apply below_drew1) | exact HB.out)) hb); have n1_ := Aside0.mk (hbox); have n2_ := Aside0.mk ((by rw [hg]; exact (below_size (by repeat (first | (with_reducible first | exact HB.out | apply below_alloc | apply pw_below_drewN | apply below_drew1) | exact HB.out))) : w.heap.size ≤ gb108)); have n3_ := Aside0.mk ((by rw [hg]; exact (below_size (by repeat (first | (with_reducible first | exact HB.out | apply below_alloc | apply pw_below_drewN | apply below_drew1) | exact HB.out))) : w.heap.size ≤ gb108)); clear HB; have HB := n0_; have BK108 := n1_; have GW108 := n2_; have GE108 := n3_; clear n0_ n1_ n2_ n3_; clear hb hbox hg; have hcz19_0 : w18.cell? ⟨gb108, 0, none⟩ = some (.string (⟨#[]⟩ : ByteArray)) := (blk_cell BK108.out 0).trans rfl; have hcz19_1 : w18.cell? ⟨gb108, 1, none⟩ = some (.slice none 0 0) := (blk_cell BK108.out 1).trans rfl; have hfz19_0 := blk_frozen BK108.out 0; have hfz19_1 := blk_frozen BK108.out 1) | (go_at_call 70; (with_reducible refine (truantref02_Word.calls k1 ((rd_T43 l0 x4_1).f0) true _ A5.out).mono ?_); clear A5; rintro e w20 ⟨rfl, hb⟩; have n0_ := Aside0.mk (blk_below (g := gb108) (o := .cells #[.string ((rd_T43 l0 x4_1).f0), .slice A107_1 ((rd_T43 l0 x4_1).f1).length c107_1] 43 (0, 0)) (by (with_reducible repeat (first | refine blk_drewN ?_ _ | refine blk_drew ?_ | refine blk_alloc ?_ _)); refine blk_put (cs := #[.string ((rd_T43 l0 x4_1).f0), .slice none 0 0]) ?_ 1 _ rfl; (with_reducible repeat (first | refine blk_drewN ?_ _ | refine blk_drew ?_ | refine blk_alloc ?_ _)); refine blk_put (cs := #[.string (⟨#[]⟩ : ByteArray), .slice none 0 0]) ?_ 0 _ rfl; (with_reducible repeat (first | refine blk_drewN ?_ _ | refine blk_drew ?_ | refine blk_alloc ?_ _)); exact BK108.out) hb); have n1_ := Aside0.mk (below_step (by repeat (first | (with_reducible first | exact HB.out | apply below_alloc | apply pw_below_drewN | apply below_drew1 | refine below_set ?_ GE108.out) | exact HB.out)) hb); clear BK108; clear HB; have BK108 := n0_; have HB := n1_; clear n0_ n1_; (try clear hb); (try clear hb2); (try clear hk); (try clear hi); have hcz21_0 : w20.cell? ⟨gb108, 0, none⟩ = some (.string ((rd_T43 l0 x4_1).f0)) := (blk_cell BK108.out 0).trans rfl; have hcz21_1 : w20.cell? ⟨gb108, 1, none⟩ = some (.slice A107_1 ((rd_T43 l0 x4_1).f1).length c107_1) := (blk_cell BK108.out 1).trans rfl; have hfz21_0 := blk_frozen BK108.out 0; have hfz21_1 := blk_frozen BK108.out 1) | (go_at_call 19; (with_reducible refine (truantref03_Find.calls k1 _ _ l0 ((rd_T43 l0 x4_1).f0) t110 _ ?side1 ?side2 A7.out).mono ?_); clear A7; (case side1 => repeat (first | exact (Kd.C_below HR0.out HB.out) | (with_reducible refine Kd.C_alloc ?_ _) | (with_reducible refine Kd.C_drewN ?_ _) | (with_reducible refine Kd.C_drew ?_))); (case side2 => exact HC0.out); rintro e w' ⟨rfl, ⟨nd, rfl⟩⟩; (try first | exact ⟨rfl, _, World.drewN_drewN _ _ _⟩ | exact ⟨rfl, _, Eq.trans (World.drewN_drewN _ _ _) (congrArg (World.drewN _) (Nat.add_assoc _ _ _))⟩))))
         go_loopg [6] k1 (fun kq v6 w' => ∃ (x6_2 : Int), v6 = .int .i64 x6_2 ∧ Aside0 (truantref03_Check.l1 kq l0 x4_1 x6_2 ((rd_T43 l0 x4_1).f0) ((rd_T43 l0 x4_1).f1) = some (r1, r2)) ∧ Aside0 (kq ≤ k1) ∧ Aside0 (w'.heap[gb108]? = some (.cells #[.string ((rd_T43 l0 x4_1).f0), (.slice A107_1 ((rd_T43 l0 x4_1).f1).length c107_1)] 43 (0, 0))) ∧ Aside0 (Below w.heap.size w w'))
         case atStart => exact ⟨(0), (by first | rfl | (simp; done) | (simp [*]; done)), H', ⟨Nat.le_refl _⟩, ⟨by (with_reducible repeat (first | refine blk_drewN ?_ _ | refine blk_drew ?_ | refine blk_alloc ?_ _)); exact BK108.out⟩, ⟨by repeat (first | (with_reducible first | exact HB.out | apply below_alloc | apply pw_below_drewN | apply below_drew1 | refine below_set ?_ GE108.out) | exact HB.out)⟩⟩
         case round =>
          clear H'
          try clear c1
          try clear p1
          try clear q1
          try clear hx1
          try clear c2
          try clear c2b0
          try clear c2b1
          try clear p2
          try clear c3
          try clear c3b0
          try clear c4
          try clear c4b0
          try clear c6
          try clear c8
          try clear c8b0
          try clear c10
          try clear p10
          try clear q10
          try clear hx10
          try clear c13
          try clear c13b0
          try clear c13b1
          try clear c16
          try clear hcz10_0
          try clear hcz10_1
          try clear hcz12_0
          try clear hcz12_1
          try clear hcz15_0
          try clear hcz15_1
          try clear hcz17_0
          try clear hcz17_1
          try clear hcz19_0
          try clear hcz19_1
          try clear hcz21_0
          try clear hcz21_1
          try clear hfz10_0
          try clear hfz10_1
          try clear hfz12_0
          try clear hfz12_1
          try clear hfz15_0
          try clear hfz15_1
          try clear hfz17_0
          try clear hfz17_1
          try clear hfz19_0
          try clear hfz19_1
          try clear hfz21_0
          try clear hfz21_1
          try clear hx107_0
          try clear hx107_1
          try clear p107
          try clear p2
          try clear q107
          obtain ⟨x6_2, rfl, HA, HK2, BK108, HB⟩ := hrel
          cases gk with
          | zero => exact absurd HA.out (by simp [truantref03_Check.l1])
          | succ k2 =>
           have H := HA.out
           clear HA
           simp only [truantref03_Check.l1] at H
           by_cases c22 : x6_2 < (((rd_T43 l0 x4_1).f1).length : Int)
           ·rw [if_pos c22] at H
            have c22b0 : decide (x6_2 < (((rd_T43 l0 x4_1).f1).length : Int)) = true := decide_eq_true c22
            clear c22
            by_cases c23 : 0 ≤ x6_2
            ·rw [if_pos c23] at H
             have c23b0 : decide (0 ≤ x6_2) = true := decide_eq_true c23
             clear c23
             replace H := Option.bind_eq_some_iff.mp H
             obtain ⟨t112, A240, H⟩ := H
             replace H : (if t112 = true then (truantref03_Check.l2 k2 l0 x4_1 x6_2 0 ((rd_T43 l0 x4_1).f0) ((rd_T43 l0 x4_1).f1)) else (some (x4_1, 1))) = some (r1, r2) := H
             have A24 := Aside0.mk A240
             clear A240
             by_cases c25 : t112 = true
             ·subst c25
              have H1 : (truantref03_Check.l2 k2 l0 x4_1 x6_2 0 ((rd_T43 l0 x4_1).f0) ((rd_T43 l0 x4_1).f1)) = some (r1, r2) := by rw [if_pos rfl] at H; exact H
              clear H
              have H := H1
              clear H1
              have H' := Aside0.mk H
              clear H
              have hcz26_0 : wr.cell? ⟨gb108, 0, none⟩ = some (.string ((rd_T43 l0 x4_1).f0)) := (blk_cell BK108.out 0).trans rfl
              have hcz26_1 : wr.cell? ⟨gb108, 1, none⟩ = some (.slice A107_1 ((rd_T43 l0 x4_1).f1).length c107_1) := (blk_cell BK108.out 1).trans rfl
              have hfz26_0 := blk_frozen BK108.out 0
              have hfz26_1 := blk_frozen BK108.out 1
              have p111 : 0 ≤ (x6_2 : Int) := of_decide_eq_true (by first | (with_reducible assumption) | assumption)
              have q111 : x6_2 < (((rd_T43 l0 x4_1).f1).length : Int) := of_decide_eq_true (by first | (with_reducible assumption) | assumption)
              obtain ⟨ad111, e111, hx111_0, hx111_1⟩ := at_T48 HR107_1.out x6_2 p111 q111
              cases e111
              replace hx111_0 := (HB.out.cell (World.block_lt_of_cell? w _ hx111_0)).trans hx111_0
              replace hx111_1 := (HB.out.cell (World.block_lt_of_cell? w _ hx111_1)).trans hx111_1
              replace p111 := eq_true p111
              replace q111 := eq_true q111
              go_wp2_with (first | (go_at_call 70; (with_reducible refine (truantref02_Word.calls k2 ((rd_T48 ((rd_T43 l0 x4_1).f1) x6_2).f0) true _ A24.out).mono ?_); rintro e w27 ⟨rfl, hb⟩; have n0_ := Aside0.mk (blk_below (g := gb108) (o := .cells #[.string ((rd_T43 l0 x4_1).f0), .slice (some ad111) ((rd_T43 l0 x4_1).f1).length c107_1] 43 (0, 0)) (by (with_reducible repeat (first | refine blk_drewN ?_ _ | refine blk_drew ?_ | refine blk_alloc ?_ _)); exact BK108.out) hb); have n1_ := Aside0.mk (below_step (by repeat (first | (with_reducible first | exact HB.out | apply below_alloc | apply pw_below_drewN | apply below_drew1 | refine below_set ?_ GE108.out) | exact HB.out)) hb); clear BK108; clear HB; have BK108 := n0_; have HB := n1_; clear n0_ n1_; (try clear hb); (try clear hb2); (try clear hk); (try clear hi)))
              repeat (go_quiet (first | (go_at_call 70; (with_reducible refine (truantref02_Word.calls k2 ((rd_T48 ((rd_T43 l0 x4_1).f1) x6_2).f0) true _ A24.out).mono ?_); clear A24; rintro e w27 ⟨rfl, hb⟩; have n0_ := Aside0.mk (blk_below (g := gb108) (o := .cells #[.string ((rd_T43 l0 x4_1).f0), .slice (some ad111) ((rd_T43 l0 x4_1).f1).length c107_1] 43 (0, 0)) (by (with_reducible repeat (first | refine blk_drewN ?_ _ | refine blk_drew ?_ | refine blk_alloc ?_ _)); exact BK108.out) hb); have n1_ := Aside0.mk (below_step (by repeat (first | (with_reducible first | exact HB.out | apply below_alloc | apply pw_below_drewN | apply below_drew1 | refine below_set ?_ GE108.out) | exact HB.out)) hb); clear BK108; clear HB; have BK108 := n0_; have HB := n1_; clear n0_ n1_; (try clear hb); (try clear hb2); (try clear hk); (try clear hi))); try go_wp2_with (first | (go_at_call 70; (with_reducible refine (truantref02_Word.calls k2 ((rd_T48 ((rd_T43 l0 x4_1).f1) x6_2).f0) true _ A24.out).mono ?_); clear A24; rintro e w27 ⟨rfl, hb⟩; have n0_ := Aside0.mk (blk_below (g := gb108) (o := .cells #[.string ((rd_T43 l0 x4_1).f0), .slice (some ad111) ((rd_T43 l0 x4_1).f1).length c107_1] 43 (0, 0)) (by (with_reducible repeat (first | refine blk_drewN ?_ _ | refine blk_drew ?_ | refine blk_alloc ?_ _)); exact BK108.out) hb); have n1_ := Aside0.mk (below_step (by repeat (first | (with_reducible first | exact HB.out | apply below_alloc | apply pw_below_drewN | apply below_drew1 | refine below_set ?_ GE108.out) | exact HB.out)) hb); clear BK108; clear HB; have BK108 := n0_; have HB := n1_; clear n0_ n1_; (try clear hb); (try clear hb2); (try clear hk); (try clear hi))))
              go_loopg [7] k2 (fun kq v7 w' => ∃ (x7_3 : Int), v7 = .int .i64 x7_3 ∧ Aside0 (truantref03_Check.l2 kq l0 x4_1 x6_2 x7_3 ((rd_T43 l0 x4_1).f0) ((rd_T43 l0 x4_1).f1) = some (r1, r2)) ∧ Aside0 (kq ≤ k2) ∧ Aside0 (w'.heap[gb108]? = some (.cells #[.string ((rd_T43 l0 x4_1).f0), (.slice (some ad111) ((rd_T43 l0 x4_1).f1).length c107_1)] 43 (0, 0))) ∧ Aside0 (Below w.heap.size w w'))
              case atStart => exact ⟨(0), (by first | rfl | (simp; done) | (simp [*]; done)), H', ⟨Nat.le_refl _⟩, ⟨by (with_reducible repeat (first | refine blk_drewN ?_ _ | refine blk_drew ?_ | refine blk_alloc ?_ _)); exact BK108.out⟩, ⟨by repeat (first | (with_reducible first | exact HB.out | apply below_alloc | apply pw_below_drewN | apply below_drew1 | refine below_set ?_ GE108.out) | exact HB.out)⟩⟩
              case round =>
               clear H'
               try clear c1
               try clear p1
               try clear q1
               try clear hx1
               try clear c2
               try clear c2b0
               try clear c2b1
               try clear p2
               try clear c3
               try clear c3b0
               try clear c4
               try clear c4b0
               try clear c6
               try clear c8
               try clear c8b0
               try clear c10
               try clear p10
               try clear q10
               try clear hx10
               try clear p11
               try clear q11
               try clear hx11
               try clear c13
               try clear c13b0
               try clear c13b1
               try clear c16
               try clear c22
               try clear c22b0
               try clear c23
               try clear c23b0
               try clear c25
               try clear hcz10_0
               try clear hcz10_1
               try clear hcz12_0
               try clear hcz12_1
               try clear hcz15_0
               try clear hcz15_1
               try clear hcz17_0
               try clear hcz17_1
               try clear hcz19_0
               try clear hcz19_1
               try clear hcz21_0
               try clear hcz21_1
               try clear hcz26_0
               try clear hcz26_1
               try clear hfz10_0
               try clear hfz10_1
               try clear hfz12_0
               try clear hfz12_1
               try clear hfz15_0
               try clear hfz15_1
               try clear hfz17_0
               try clear hfz17_1
               try clear hfz19_0
               try clear hfz19_1
               try clear hfz21_0
               try clear hfz21_1
               try clear hfz26_0
               try clear hfz26_1
               try clear hx107_0
               try clear hx107_1
               try clear hx111_0
               try clear hx111_1
               try clear p1
               try clear p10
               try clear p107
               try clear p111
               try clear p2
               try clear q1
               try clear q10
               try clear q107
               try clear q111
               obtain ⟨x7_3, rfl, HA, HK3, BK108, HB⟩ := hrel
               cases gk with
               | zero => exact absurd HA.out (by simp [truantref03_Check.l2])
               | succ k3 =>
                have H := HA.out
                clear HA
                simp only [truantref03_Check.l2] at H
                by_cases c28 : x7_3 < x6_2
                ·rw [if_pos c28] at H
                 have c28b0 : decide (x7_3 < x6_2) = true := decide_eq_true c28
                 clear c28
                 by_cases c29 : 0 ≤ x7_3
                 ·rw [if_pos c29] at H
                  have c29b0 : decide (0 ≤ x7_3) = true := decide_eq_true c29
                  clear c29
                  by_cases c30 : x7_3 < (((rd_T43 l0 x4_1).f1).length : Int)
                  ·rw [if_pos c30] at H
                   have c30b0 : decide (x7_3 < (((rd_T43 l0 x4_1).f1).length : Int)) = true := decide_eq_true c30
                   clear c30
                   by_cases c31 : 0 ≤ x6_2
                   ·rw [if_pos c31] at H
                    have c31b0 : decide (0 ≤ x6_2) = true := decide_eq_true c31
                    clear c31
                    by_cases c32 : x6_2 < (((rd_T43 l0 x4_1).f1).length : Int)
                    ·rw [if_pos c32] at H
                     have c32b0 : decide (x6_2 < (((rd_T43 l0 x4_1).f1).length : Int)) = true := decide_eq_true c32
                     clear c32
                     by_cases c33 : ((rd_T48 ((rd_T43 l0 x4_1).f1) x7_3).f0).toList = ((rd_T48 ((rd_T43 l0 x4_1).f1) x6_2).f0).toList
                     ·rw [if_pos c33] at H
                      have c33b0 : (((rd_T48 ((rd_T43 l0 x4_1).f1) x7_3).f0).toList == ((rd_T48 ((rd_T43 l0 x4_1).f1) x6_2).f0).toList) = true := beq_iff_eq.mpr c33
                      have c33b1 : (((rd_T48 ((rd_T43 l0 x4_1).f1) x7_3).f0).toList != ((rd_T48 ((rd_T43 l0 x4_1).f1) x6_2).f0).toList) = false := bne_eq_false_iff_eq.mpr c33
                      clear c33
                      simp only [Option.some.injEq, Prod.mk.injEq] at H
                      obtain ⟨rfl, rfl⟩ := H
                      have hcz34_0 : wr.cell? ⟨gb108, 0, none⟩ = some (.string ((rd_T43 l0 x4_1).f0)) := (blk_cell BK108.out 0).trans rfl
                      have hcz34_1 : wr.cell? ⟨gb108, 1, none⟩ = some (.slice (some ad111) ((rd_T43 l0 x4_1).f1).length c107_1) := (blk_cell BK108.out 1).trans rfl
                      have hfz34_0 := blk_frozen BK108.out 0
                      have hfz34_1 := blk_frozen BK108.out 1
                      have p113 : 0 ≤ (x7_3 : Int) := of_decide_eq_true (by first | (with_reducible assumption) | assumption)
                      have q113 : x7_3 < (((rd_T43 l0 x4_1).f1).length : Int) := of_decide_eq_true (by first | (with_reducible assumption) | assumption)
                      obtain ⟨ad113, e113, hx113_0, hx113_1⟩ := at_T48 HR107_1.out x7_3 p113 q113
                      obtain rfl : ad111 = ad113 := (by injection e113)
                      replace hx113_0 := (HB.out.cell (World.block_lt_of_cell? w _ hx113_0)).trans hx113_0
                      replace hx113_1 := (HB.out.cell (World.block_lt_of_cell? w _ hx113_1)).trans hx113_1
                      replace p113 := eq_true p113
                      replace q113 := eq_true q113
                      have p114 : 0 ≤ (x6_2 : Int) := of_decide_eq_true (by first | (with_reducible assumption) | assumption)
                      have q114 : x6_2 < (((rd_T43 l0 x4_1).f1).length : Int) := of_decide_eq_true (by first | (with_reducible assumption) | assumption)
                      obtain ⟨ad114, e114, hx114_0, hx114_1⟩ := at_T48 HR107_1.out x6_2 p114 q114
                      obtain rfl : ad111 = ad114 := (by injection e114)
                      replace hx114_0 := (HB.out.cell (World.block_lt_of_cell? w _ hx114_0)).trans hx114_0
                      replace hx114_1 := (HB.out.cell (World.block_lt_of_cell? w _ hx114_1)).trans hx114_1
                      replace p114 := eq_true p114
                      replace q114 := eq_true q114
                      go_wp2
                      repeat (go_quiet (fail); try go_wp2)
                      go_ret2
                      exact ⟨by first | rfl | (simp [errW_none, errW_some] <;> rfl) | (simp [*, errW_none, errW_some] <;> rfl), by repeat (first | (with_reducible first | exact HB.out | apply below_alloc | apply pw_below_drewN | apply below_drew1 | refine below_set ?_ GE108.out) | exact HB.out)⟩
                     ·rw [if_neg c33] at H
                      have c33b0 : (((rd_T48 ((rd_T43 l0 x4_1).f1) x7_3).f0).toList == ((rd_T48 ((rd_T43 l0 x4_1).f1) x6_2).f0).toList) = false := beq_eq_false_iff_ne.mpr c33
                      have c33b1 : (((rd_T48 ((rd_T43 l0 x4_1).f1) x7_3).f0).toList != ((rd_T48 ((rd_T43 l0 x4_1).f1) x6_2).f0).toList) = true := bne_iff_ne.mpr c33
                      have H' := Aside0.mk H
                      clear H
                      have hcz35_0 : wr.cell? ⟨gb108, 0, none⟩ = some (.string ((rd_T43 l0 x4_1).f0)) := (blk_cell BK108.out 0).trans rfl
                      have hcz35_1 : wr.cell? ⟨gb108, 1, none⟩ = some (.slice (some ad111) ((rd_T43 l0 x4_1).f1).length c107_1) := (blk_cell BK108.out 1).trans rfl
                      have hfz35_0 := blk_frozen BK108.out 0
                      have hfz35_1 := blk_frozen BK108.out 1
                      have p113 : 0 ≤ (x7_3 : Int) := of_decide_eq_true (by first | (with_reducible assumption) | assumption)
                      have q113 : x7_3 < (((rd_T43 l0 x4_1).f1).length : Int) := of_decide_eq_true (by first | (with_reducible assumption) | assumption)
                      obtain ⟨ad113, e113, hx113_0, hx113_1⟩ := at_T48 HR107_1.out x7_3 p113 q113
                      obtain rfl : ad111 = ad113 := (by injection e113)
                      replace hx113_0 := (HB.out.cell (World.block_lt_of_cell? w _ hx113_0)).trans hx113_0
                      replace hx113_1 := (HB.out.cell (World.block_lt_of_cell? w _ hx113_1)).trans hx113_1
                      replace p113 := eq_true p113
                      replace q113 := eq_true q113
                      have p114 : 0 ≤ (x6_2 : Int) := of_decide_eq_true (by first | (with_reducible assumption) | assumption)
                      have q114 : x6_2 < (((rd_T43 l0 x4_1).f1).length : Int) := of_decide_eq_true (by first | (with_reducible assumption) | assumption)
                      obtain ⟨ad114, e114, hx114_0, hx114_1⟩ := at_T48 HR107_1.out x6_2 p114 q114
                      obtain rfl : ad111 = ad114 := (by injection e114)
                      replace hx114_0 := (HB.out.cell (World.block_lt_of_cell? w _ hx114_0)).trans hx114_0
                      replace hx114_1 := (HB.out.cell (World.block_lt_of_cell? w _ hx114_1)).trans hx114_1
                      replace p114 := eq_true p114
                      replace q114 := eq_true q114
                      go_wp2
                      repeat (go_quiet (fail); try go_wp2)
                      go_roundg k3
                      case measure => have := HK1.out; have := HK2.out; have := HK3.out; omega
                      case rel => exact ⟨(wrap64 (x7_3 + 1)), (by first | rfl | (simp; done) | (simp [*]; done)), H', ⟨by have := HK1.out; have := HK2.out; have := HK3.out; omega⟩, ⟨by (with_reducible repeat (first | refine blk_drewN ?_ _ | refine blk_drew ?_ | refine blk_alloc ?_ _)); exact BK108.out⟩, ⟨by repeat (first | (with_reducible first | exact HB.out | apply below_alloc | apply pw_below_drewN | apply below_drew1 | refine below_set ?_ GE108.out) | exact HB.out)⟩⟩
                    ·rw [if_neg c32] at H
                     exact absurd H (by simp)
                   ·rw [if_neg c31] at H
                    exact absurd H (by simp)
                  ·rw [if_neg c30] at H
                   exact absurd H (by simp)
                 ·rw [if_neg c29] at H
                  exact absurd H (by simp)
                ·rw [if_neg c28] at H
                 have c28b0 : decide (x7_3 < x6_2) = false := decide_eq_false c28
                 clear c28
                 by_cases c36 : 0 ≤ x6_2
                 ·rw [if_pos c36] at H
                  have c36b0 : decide (0 ≤ x6_2) = true := decide_eq_true c36
                  clear c36
                  by_cases c37 : x6_2 < (((rd_T43 l0 x4_1).f1).length : Int)
                  ·rw [if_pos c37] at H
                   have c37b0 : decide (x6_2 < (((rd_T43 l0 x4_1).f1).length : Int)) = true := decide_eq_true c37
                   clear c37
                   replace H := Option.bind_eq_some_iff.mp H
                   obtain ⟨t116, A380, H⟩ := H
                   replace H : (if t116 = true then (truantref03_Check.l1 k3 l0 x4_1 (wrap64 (x6_2 + 1)) ((rd_T43 l0 x4_1).f0) ((rd_T43 l0 x4_1).f1)) else (some (x4_1, 7))) = some (r1, r2) := H
                   have A38 := Aside0.mk A380
                   clear A380
                   by_cases c39 : t116 = true
                   ·subst c39
                    have H1 : (truantref03_Check.l1 k3 l0 x4_1 (wrap64 (x6_2 + 1)) ((rd_T43 l0 x4_1).f0) ((rd_T43 l0 x4_1).f1)) = some (r1, r2) := by rw [if_pos rfl] at H; exact H
                    clear H
                    have H := H1
                    clear H1
                    have H' := Aside0.mk H
                    clear H
                    have hcz40_0 : wr.cell? ⟨gb108, 0, none⟩ = some (.string ((rd_T43 l0 x4_1).f0)) := (blk_cell BK108.out 0).trans rfl
                    have hcz40_1 : wr.cell? ⟨gb108, 1, none⟩ = some (.slice (some ad111) ((rd_T43 l0 x4_1).f1).length c107_1) := (blk_cell BK108.out 1).trans rfl
                    have hfz40_0 := blk_frozen BK108.out 0
                    have hfz40_1 := blk_frozen BK108.out 1
                    have p115 : 0 ≤ (x6_2 : Int) := of_decide_eq_true (by first | (with_reducible assumption) | assumption)
                    have q115 : x6_2 < (((rd_T43 l0 x4_1).f1).length : Int) := of_decide_eq_true (by first | (with_reducible assumption) | assumption)
                    obtain ⟨ad115, e115, hx115_0, hx115_1⟩ := at_T48 HR107_1.out x6_2 p115 q115
                    obtain rfl : ad111 = ad115 := (by injection e115)
                    replace hx115_0 := (HB.out.cell (World.block_lt_of_cell? w _ hx115_0)).trans hx115_0
                    replace hx115_1 := (HB.out.cell (World.block_lt_of_cell? w _ hx115_1)).trans hx115_1
                    replace p115 := eq_true p115
                    replace q115 := eq_true q115
                    go_wp2_with (first | (go_at_call 22; (with_reducible refine (truantref03_Is.calls k3 _ _ l0 ((rd_T48 ((rd_T43 l0 x4_1).f1) x6_2).f1) true _ ?side1 ?side2 A38.out).mono ?_); (case side1 => repeat (first | exact (Kd.C_below HR0.out HB.out) | (with_reducible refine Kd.C_alloc ?_ _) | (with_reducible refine Kd.C_drewN ?_ _) | (with_reducible refine Kd.C_drew ?_))); (case side2 => exact HC0.out); rintro e w' ⟨rfl, ⟨nd, rfl⟩⟩; (try first | exact ⟨rfl, _, World.drewN_drewN _ _ _⟩ | exact ⟨rfl, _, Eq.trans (World.drewN_drewN _ _ _) (congrArg (World.drewN _) (Nat.add_assoc _ _ _))⟩)))
                    repeat (go_quiet (first | (go_at_call 22; (with_reducible refine (truantref03_Is.calls k3 _ _ l0 ((rd_T48 ((rd_T43 l0 x4_1).f1) x6_2).f1) true _ ?side1 ?side2 A38.out).mono ?_); clear A38; (case side1 => repeat (first | exact (Kd.C_below HR0.out HB.out) | (with_reducible refine Kd.C_alloc ?_ _) | (with_reducible refine Kd.C_drewN ?_ _) | (with_reducible refine Kd.C_drew ?_))); (case side2 => exact HC0.out); rintro e w' ⟨rfl, ⟨nd, rfl⟩⟩; (try first | exact ⟨rfl, _, World.drewN_drewN _ _ _⟩ | exact ⟨rfl, _, Eq.trans (World.drewN_drewN _ _ _) (congrArg (World.drewN _) (Nat.add_assoc _ _ _))⟩))); try go_wp2_with (first | (go_at_call 22; (with_reducible refine (truantref03_Is.calls k3 _ _ l0 ((rd_T48 ((rd_T43 l0 x4_1).f1) x6_2).f1) true _ ?side1 ?side2 A38.out).mono ?_); clear A38; (case side1 => repeat (first | exact (Kd.C_below HR0.out HB.out) | (with_reducible refine Kd.C_alloc ?_ _) | (with_reducible refine Kd.C_drewN ?_ _) | (with_reducible refine Kd.C_drew ?_))); (case side2 => exact HC0.out); rintro e w' ⟨rfl, ⟨nd, rfl⟩⟩; (try first | exact ⟨rfl, _, World.drewN_drewN _ _ _⟩ | exact ⟨rfl, _, Eq.trans (World.drewN_drewN _ _ _) (congrArg (World.drewN _) (Nat.add_assoc _ _ _))⟩))))
                    go_roundg k3
                    case measure => have := HK1.out; have := HK2.out; have := HK3.out; omega
                    case rel => exact ⟨(wrap64 (x6_2 + 1)), (by first | rfl | (simp; done) | (simp [*]; done)), H', ⟨by have := HK1.out; have := HK2.out; have := HK3.out; omega⟩, ⟨by (with_reducible repeat (first | refine blk_drewN ?_ _ | refine blk_drew ?_ | refine blk_alloc ?_ _)); exact BK108.out⟩, ⟨by repeat (first | (with_reducible first | exact HB.out | apply below_alloc | apply pw_below_drewN | apply below_drew1 | refine below_set ?_ GE108.out) | exact HB.out)⟩⟩
                   ·replace c39 := Bool.eq_false_iff.mpr c39
                    subst c39
                    have H1 : (some (x4_1, 7)) = some (r1, r2) := by rw [if_neg (show ¬ (false = true) by decide)] at H; exact H
                    clear H
                    have H := H1
                    clear H1
                    simp only [Option.some.injEq, Prod.mk.injEq] at H
                    obtain ⟨rfl, rfl⟩ := H
                    have hcz41_0 : wr.cell? ⟨gb108, 0, none⟩ = some (.string ((rd_T43 l0 x4_1).f0)) := (blk_cell BK108.out 0).trans rfl
                    have hcz41_1 : wr.cell? ⟨gb108, 1, none⟩ = some (.slice (some ad111) ((rd_T43 l0 x4_1).f1).length c107_1) := (blk_cell BK108.out 1).trans rfl
                    have hfz41_0 := blk_frozen BK108.out 0
                    have hfz41_1 := blk_frozen BK108.out 1
                    have p115 : 0 ≤ (x6_2 : Int) := of_decide_eq_true (by first | (with_reducible assumption) | assumption)
                    have q115 : x6_2 < (((rd_T43 l0 x4_1).f1).length : Int) := of_decide_eq_true (by first | (with_reducible assumption) | assumption)
                    obtain ⟨ad115, e115, hx115_0, hx115_1⟩ := at_T48 HR107_1.out x6_2 p115 q115
                    obtain rfl : ad111 = ad115 := (by injection e115)
                    replace hx115_0 := (HB.out.cell (World.block_lt_of_cell? w _ hx115_0)).trans hx115_0
                    replace hx115_1 := (HB.out.cell (World.block_lt_of_cell? w _ hx115_1)).trans hx115_1
                    replace p115 := eq_true p115
                    replace q115 := eq_true q115
                    go_wp2_with (first | (go_at_call 22; (with_reducible refine (truantref03_Is.calls k3 _ _ l0 ((rd_T48 ((rd_T43 l0 x4_1).f1) x6_2).f1) false _ ?side1 ?side2 A38.out).mono ?_); (case side1 => repeat (first | exact (Kd.C_below HR0.out HB.out) | (with_reducible refine Kd.C_alloc ?_ _) | (with_reducible refine Kd.C_drewN ?_ _) | (with_reducible refine Kd.C_drew ?_))); (case side2 => exact HC0.out); rintro e w' ⟨rfl, ⟨nd, rfl⟩⟩; (try first | exact ⟨rfl, _, World.drewN_drewN _ _ _⟩ | exact ⟨rfl, _, Eq.trans (World.drewN_drewN _ _ _) (congrArg (World.drewN _) (Nat.add_assoc _ _ _))⟩)))
                    repeat (go_quiet (first | (go_at_call 22; (with_reducible refine (truantref03_Is.calls k3 _ _ l0 ((rd_T48 ((rd_T43 l0 x4_1).f1) x6_2).f1) false _ ?side1 ?side2 A38.out).mono ?_); clear A38; (case side1 => repeat (first | exact (Kd.C_below HR0.out HB.out) | (with_reducible refine Kd.C_alloc ?_ _) | (with_reducible refine Kd.C_drewN ?_ _) | (with_reducible refine Kd.C_drew ?_))); (case side2 => exact HC0.out); rintro e w' ⟨rfl, ⟨nd, rfl⟩⟩; (try first | exact ⟨rfl, _, World.drewN_drewN _ _ _⟩ | exact ⟨rfl, _, Eq.trans (World.drewN_drewN _ _ _) (congrArg (World.drewN _) (Nat.add_assoc _ _ _))⟩))); try go_wp2_with (first | (go_at_call 22; (with_reducible refine (truantref03_Is.calls k3 _ _ l0 ((rd_T48 ((rd_T43 l0 x4_1).f1) x6_2).f1) false _ ?side1 ?side2 A38.out).mono ?_); clear A38; (case side1 => repeat (first | exact (Kd.C_below HR0.out HB.out) | (with_reducible refine Kd.C_alloc ?_ _) | (with_reducible refine Kd.C_drewN ?_ _) | (with_reducible refine Kd.C_drew ?_))); (case side2 => exact HC0.out); rintro e w' ⟨rfl, ⟨nd, rfl⟩⟩; (try first | exact ⟨rfl, _, World.drewN_drewN _ _ _⟩ | exact ⟨rfl, _, Eq.trans (World.drewN_drewN _ _ _) (congrArg (World.drewN _) (Nat.add_assoc _ _ _))⟩))))
                    go_ret2
                    exact ⟨by first | rfl | (simp [errW_none, errW_some] <;> rfl) | (simp [*, errW_none, errW_some] <;> rfl), by repeat (first | (with_reducible first | exact HB.out | apply below_alloc | apply pw_below_drewN | apply below_drew1 | refine below_set ?_ GE108.out) | exact HB.out)⟩
                  ·rw [if_neg c37] at H
                   exact absurd H (by simp)
                 ·rw [if_neg c36] at H
                  exact absurd H (by simp)
             ·replace c25 := Bool.eq_false_iff.mpr c25
              subst c25
              have H1 : (some (x4_1, 1)) = some (r1, r2) := by rw [if_neg (show ¬ (false = true) by decide)] at H; exact H
              clear H
              have H := H1
              clear H1
              simp only [Option.some.injEq, Prod.mk.injEq] at H
              obtain ⟨rfl, rfl⟩ := H
              have hcz42_0 : wr.cell? ⟨gb108, 0, none⟩ = some (.string ((rd_T43 l0 x4_1).f0)) := (blk_cell BK108.out 0).trans rfl
              have hcz42_1 : wr.cell? ⟨gb108, 1, none⟩ = some (.slice A107_1 ((rd_T43 l0 x4_1).f1).length c107_1) := (blk_cell BK108.out 1).trans rfl
              have hfz42_0 := blk_frozen BK108.out 0
              have hfz42_1 := blk_frozen BK108.out 1
              have p111 : 0 ≤ (x6_2 : Int) := of_decide_eq_true (by first | (with_reducible assumption) | assumption)
              have q111 : x6_2 < (((rd_T43 l0 x4_1).f1).length : Int) := of_decide_eq_true (by first | (with_reducible assumption) | assumption)
              obtain ⟨ad111, e111, hx111_0, hx111_1⟩ := at_T48 HR107_1.out x6_2 p111 q111
              cases e111
              replace hx111_0 := (HB.out.cell (World.block_lt_of_cell? w _ hx111_0)).trans hx111_0
              replace hx111_1 := (HB.out.cell (World.block_lt_of_cell? w _ hx111_1)).trans hx111_1
              replace p111 := eq_true p111
              replace q111 := eq_true q111
              go_wp2_with (first | (go_at_call 70; (with_reducible refine (truantref02_Word.calls k2 ((rd_T48 ((rd_T43 l0 x4_1).f1) x6_2).f0) false _ A24.out).mono ?_); rintro e w43 ⟨rfl, hb⟩; have n0_ := Aside0.mk (blk_below (g := gb108) (o := .cells #[.string ((rd_T43 l0 x4_1).f0), .slice (some ad111) ((rd_T43 l0 x4_1).f1).length c107_1] 43 (0, 0)) (by (with_reducible repeat (first | refine blk_drewN ?_ _ | refine blk_drew ?_ | refine blk_alloc ?_ _)); exact BK108.out) hb); have n1_ := Aside0.mk (below_step (by repeat (first | (with_reducible first | exact HB.out | apply below_alloc | apply pw_below_drewN | apply below_drew1 | refine below_set ?_ GE108.out) | exact HB.out)) hb); clear BK108; clear HB; have BK108 := n0_; have HB := n1_; clear n0_ n1_; (try clear hb); (try clear hb2); (try clear hk); (try clear hi)))
              repeat (go_quiet (first | (go_at_call 70; (with_reducible refine (truantref02_Word.calls k2 ((rd_T48 ((rd_T43 l0 x4_1).f1) x6_2).f0) false _ A24.out).mono ?_); clear A24; rintro e w43 ⟨rfl, hb⟩; have n0_ := Aside0.mk (blk_below (g := gb108) (o := .cells #[.string ((rd_T43 l0 x4_1).f0), .slice (some ad111) ((rd_T43 l0 x4_1).f1).length c107_1] 43 (0, 0)) (by (with_reducible repeat (first | refine blk_drewN ?_ _ | refine blk_drew ?_ | refine blk_alloc ?_ _)); exact BK108.out) hb); have n1_ := Aside0.mk (below_step (by repeat (first | (with_reducible first | exact HB.out | apply below_alloc | apply pw_below_drewN | apply below_drew1 | refine below_set ?_ GE108.out) | exact HB.out)) hb); clear BK108; clear HB; have BK108 := n0_; have HB := n1_; clear n0_ n1_; (try clear hb); (try clear hb2); (try clear hk); (try clear hi))); try go_wp2_with (first | (go_at_call 70; (with_reducible refine (truantref02_Word.calls k2 ((rd_T48 ((rd_T43 l0 x4_1).f1) x6_2).f0) false _ A24.out).mono ?_); clear A24; rintro e w43 ⟨rfl, hb⟩; have n0_ := Aside0.mk (blk_below (g := gb108) (o := .cells #[.string ((rd_T43 l0 x4_1).f0), .slice (some ad111) ((rd_T43 l0 x4_1).f1).length c107_1] 43 (0, 0)) (by (with_reducible repeat (first | refine blk_drewN ?_ _ | refine blk_drew ?_ | refine blk_alloc ?_ _)); exact BK108.out) hb); have n1_ := Aside0.mk (below_step (by repeat (first | (with_reducible first | exact HB.out | apply below_alloc | apply pw_below_drewN | apply below_drew1 | refine below_set ?_ GE108.out) | exact HB.out)) hb); clear BK108; clear HB; have BK108 := n0_; have HB := n1_; clear n0_ n1_; (try clear hb); (try clear hb2); (try clear hk); (try clear hi))))
              go_ret2
              exact ⟨by first | rfl | (simp [errW_none, errW_some] <;> rfl) | (simp [*, errW_none, errW_some] <;> rfl), by repeat (first | (with_reducible first | exact HB.out | apply below_alloc | apply pw_below_drewN | apply below_drew1 | refine below_set ?_ GE108.out) | exact HB.out)⟩
            ·rw [if_neg c23] at H
             exact absurd H (by simp)
           ·rw [if_neg c22] at H
            have c22b0 : decide (x6_2 < (((rd_T43 l0 x4_1).f1).length : Int)) = false := decide_eq_false c22
            clear c22
            have H' := Aside0.mk H
            clear H
            have hcz44_0 : wr.cell? ⟨gb108, 0, none⟩ = some (.string ((rd_T43 l0 x4_1).f0)) := (blk_cell BK108.out 0).trans rfl
            have hcz44_1 : wr.cell? ⟨gb108, 1, none⟩ = some (.slice A107_1 ((rd_T43 l0 x4_1).f1).length c107_1) := (blk_cell BK108.out 1).trans rfl
            have hfz44_0 := blk_frozen BK108.out 0
            have hfz44_1 := blk_frozen BK108.out 1
            go_wp2
            repeat (go_quiet (fail); try go_wp2)
            go_roundg k2
            case measure => have := HK1.out; have := HK2.out; omega
            case rel => exact ⟨(wrap64 (x4_1 + 1)), (by first | rfl | (simp; done) | (simp [*]; done)), H', ⟨by have := HK1.out; have := HK2.out; omega⟩, ⟨by repeat (first | (with_reducible first | exact HB.out | apply below_alloc | apply pw_below_drewN | apply below_drew1 | refine below_set ?_ GE108.out) | exact HB.out)⟩⟩
      ·replace c6 := Bool.eq_false_iff.mpr c6
       subst c6
       have H1 : (some (x4_1, 1)) = some (r1, r2) := by rw [if_neg (show ¬ (false = true) by decide)] at H; exact H
       clear H
       have H := H1
       clear H1
       simp only [Option.some.injEq, Prod.mk.injEq] at H
       obtain ⟨rfl, rfl⟩ := H
       have p107 : 0 ≤ (x4_1 : Int) := of_decide_eq_true (by first | (with_reducible assumption) | assumption)
       have q107 : x4_1 < (l0.length : Int) := of_decide_eq_true (by first | (with_reducible assumption) | assumption)
       obtain ⟨ad107, A107_1, c107_1, e107, hx107_0, hx107_1, hl107_1, hi107_1⟩ := at_T43 HR0.out x4_1 p107 q107
       cases e107
       replace hx107_0 := (HB.out.cell (World.block_lt_of_cell? w _ hx107_0)).trans hx107_0
       replace hx107_1 := (HB.out.cell (World.block_lt_of_cell? w _ hx107_1)).trans hx107_1
       have HR107_1 := Aside0.mk hi107_1
       have HC107_1 := Aside0.mk hl107_1
       clear hi107_1 hl107_1
       replace p107 := eq_true p107
       replace q107 := eq_true q107
       go_wp2_with (first | ((with_reducible refine gate_dst (N := 5) rfl ?_); refine box_event ?hg (N := 5) ?hd (cs := #[.string (⟨#[]⟩ : ByteArray), .slice none 0 0]) (t := 43) ?hr ?_; (case hd => rfl); (case hg => rfl); (case hr => first | (go_simp; done) | (go_simp; rfl)); intro gb108 hg w45 hbox hb; have n0_ := Aside0.mk (below_step (by repeat (first | (with_reducible first | exact HB.out | apply below_alloc | apply pw_below_drewN | apply below_drew1) | exact HB.out)) hb); have n1_ := Aside0.mk (hbox); have n2_ := Aside0.mk ((by rw [hg]; exact (below_size (by repeat (first | (with_reducible first | exact HB.out | apply below_alloc | apply pw_below_drewN | apply below_drew1) | exact HB.out))) : w.heap.size ≤ gb108)); have n3_ := Aside0.mk ((by rw [hg]; exact (below_size (by repeat (first | (with_reducible first | exact HB.out | apply below_alloc | apply pw_below_drewN | apply below_drew1) | exact HB.out))) : w.heap.size ≤ gb108)); clear HB; have HB := n0_; have BK108 := n1_; have GW108 := n2_; have GE108 := n3_; clear n0_ n1_ n2_ n3_; clear hb hbox hg; have hcz46_0 : w45.cell? ⟨gb108, 0, none⟩ = some (.string (⟨#[]⟩ : ByteArray)) := (blk_cell BK108.out 0).trans rfl; have hcz46_1 : w45.cell? ⟨gb108, 1, none⟩ = some (.slice none 0 0) := (blk_cell BK108.out 1).trans rfl; have hfz46_0 := blk_frozen BK108.out 0; have hfz46_1 := blk_frozen BK108.out 1) | (go_at_call 70; (with_reducible refine (truantref02_Word.calls k1 ((rd_T43 l0 x4_1).f0) false _ A5.out).mono ?_); rintro e w47 ⟨rfl, hb⟩; have n0_ := Aside0.mk (blk_below (g := gb108) (o := .cells #[.string ((rd_T43 l0 x4_1).f0), .slice A107_1 ((rd_T43 l0 x4_1).f1).length c107_1] 43 (0, 0)) (by (with_reducible repeat (first | refine blk_drewN ?_ _ | refine blk_drew ?_ | refine blk_alloc ?_ _)); refine blk_put (cs := #[.string ((rd_T43 l0 x4_1).f0), .slice none 0 0]) ?_ 1 _ rfl; (with_reducible repeat (first | refine blk_drewN ?_ _ | refine blk_drew ?_ | refine blk_alloc ?_ _)); refine blk_put (cs := #[.string (⟨#[]⟩ : ByteArray), .slice none 0 0]) ?_ 0 _ rfl; (with_reducible repeat (first | refine blk_drewN ?_ _ | refine blk_drew ?_ | refine blk_alloc ?_ _)); exact BK108.out) hb); have n1_ := Aside0.mk (below_step (by repeat (first | (with_reducible first | exact HB.out | apply below_alloc | apply pw_below_drewN | apply below_drew1 | refine below_set ?_ GE108.out) | exact HB.out)) hb); clear BK108; clear HB; have BK108 := n0_; have HB := n1_; clear n0_ n1_; (try clear hb); (try clear hb2); (try clear hk); (try clear hi)))
       repeat (go_quiet (first | ((with_reducible refine gate_dst (N := 5) rfl ?_); refine box_event ?hg (N := 5) ?hd (cs := #[.string (⟨#[]⟩ : ByteArray), .slice none 0 0]) (t := 43) ?hr ?_; (case hd => rfl); (case hg => rfl); (case hr => first | (go_simp; done) | (go_simp; rfl)); intro gb108 hg w45 hbox hb; have n0_ := Aside0.mk (below_step (by repeat (first | (with_reducible first | exact HB.out | apply below_alloc | apply pw_below_drewN | apply below_drew1) | exact HB.out)) hb); have n1_ := Aside0.mk (hbox); have n2_ := Aside0.mk ((by rw [hg]; exact (below_size (by repeat (first | (with_reducible first | exact HB.out | apply below_alloc | apply pw_below_drewN | apply below_drew1) | exact HB.out))) : w.heap.size ≤ gb108)); have n3_ := Aside0.mk ((by rw [hg]; exact (below_size (by repeat (first | (with_reducible first | exact HB.out | apply below_alloc | apply pw_below_drewN | apply below_drew1) | exact HB.out))) : w.heap.size ≤ gb108)); clear HB; have HB := n0_; have BK108 := n1_; have GW108 := n2_; have GE108 := n3_; clear n0_ n1_ n2_ n3_; clear hb hbox hg; have hcz46_0 : w45.cell? ⟨gb108, 0, none⟩ = some (.string (⟨#[]⟩ : ByteArray)) := (blk_cell BK108.out 0).trans rfl; have hcz46_1 : w45.cell? ⟨gb108, 1, none⟩ = some (.slice none 0 0) := (blk_cell BK108.out 1).trans rfl; have hfz46_0 := blk_frozen BK108.out 0; have hfz46_1 := blk_frozen BK108.out 1) | (go_at_call 70; (with_reducible refine (truantref02_Word.calls k1 ((rd_T43 l0 x4_1).f0) false _ A5.out).mono ?_); clear A5; rintro e w47 ⟨rfl, hb⟩; have n0_ := Aside0.mk (blk_below (g := gb108) (o := .cells #[.string ((rd_T43 l0 x4_1).f0), .slice A107_1 ((rd_T43 l0 x4_1).f1).length c107_1] 43 (0, 0)) (by (with_reducible repeat (first | refine blk_drewN ?_ _ | refine blk_drew ?_ | refine blk_alloc ?_ _)); refine blk_put (cs := #[.string ((rd_T43 l0 x4_1).f0), .slice none 0 0]) ?_ 1 _ rfl; (with_reducible repeat (first | refine blk_drewN ?_ _ | refine blk_drew ?_ | refine blk_alloc ?_ _)); refine blk_put (cs := #[.string (⟨#[]⟩ : ByteArray), .slice none 0 0]) ?_ 0 _ rfl; (with_reducible repeat (first | refine blk_drewN ?_ _ | refine blk_drew ?_ | refine blk_alloc ?_ _)); exact BK108.out) hb); have n1_ := Aside0.mk (below_step (by repeat (first | (with_reducible first | exact HB.out | apply below_alloc | apply pw_below_drewN | apply below_drew1 | refine below_set ?_ GE108.out) | exact HB.out)) hb); clear BK108; clear HB; have BK108 := n0_; have HB := n1_; clear n0_ n1_; (try clear hb); (try clear hb2); (try clear hk); (try clear hi))); try go_wp2_with (first | ((with_reducible refine gate_dst (N := 5) rfl ?_); refine box_event ?hg (N := 5) ?hd (cs := #[.string (⟨#[]⟩ : ByteArray), .slice none 0 0]) (t := 43) ?hr ?_; (case hd => rfl); (case hg => rfl); (case hr => first | (go_simp; done) | (go_simp; rfl)); intro gb108 hg w45 hbox hb; have n0_ := Aside0.mk (below_step (by repeat (first | (with_reducible first | exact HB.out | apply below_alloc | apply pw_below_drewN | apply below_drew1) | exact HB.out)) hb); have n1_ := Aside0.mk (hbox); have n2_ := Aside0.mk ((by rw [hg]; exact (below_size (by repeat (first | (with_reducible first | exact HB.out | apply below_alloc | apply pw_below_drewN | apply below_drew1) | exact HB.out))) : w.heap.size ≤ gb108)); have n3_ := Aside0.mk ((by rw [hg]; exact (below_size (by repeat (first | (with_reducible first | exact HB.out | apply below_alloc | apply pw_below_drewN | apply below_drew1) | exact HB.out))) : w.heap.size ≤ gb108)); clear HB; have HB := n0_; have BK108 := n1_; have GW108 := n2_; have GE108 := n3_; clear n0_ n1_ n2_ n3_; clear hb hbox hg; have hcz46_0 : w45.cell? ⟨gb108, 0, none⟩ = some (.string (⟨#[]⟩ : ByteArray)) := (blk_cell BK108.out 0).trans rfl; have hcz46_1 : w45.cell? ⟨gb108, 1, none⟩ = some (.slice none 0 0) := (blk_cell BK108.out 1).trans rfl; have hfz46_0 := blk_frozen BK108.out 0; have hfz46_1 := blk_frozen BK108.out 1) | (go_at_call 70; (with_reducible refine (truantref02_Word.calls k1 ((rd_T43 l0 x4_1).f0) false _ A5.out).mono ?_); clear A5; rintro e w47 ⟨rfl, hb⟩; have n0_ := Aside0.mk (blk_below (g := gb108) (o := .cells #[.string ((rd_T43 l0 x4_1).f0), .slice A107_1 ((rd_T43 l0 x4_1).f1).length c107_1] 43 (0, 0)) (by (with_reducible repeat (first | refine blk_drewN ?_ _ | refine blk_drew ?_ | refine blk_alloc ?_ _)); refine blk_put (cs := #[.string ((rd_T43 l0 x4_1).f0), .slice none 0 0]) ?_ 1 _ rfl; (with_reducible repeat (first | refine blk_drewN ?_ _ | refine blk_drew ?_ | refine blk_alloc ?_ _)); refine blk_put (cs := #[.string (⟨#[]⟩ : ByteArray), .slice none 0 0]) ?_ 0 _ rfl; (with_reducible repeat (first | refine blk_drewN ?_ _ | refine blk_drew ?_ | refine blk_alloc ?_ _)); exact BK108.out) hb); have n1_ := Aside0.mk (below_step (by repeat (first | (with_reducible first | exact HB.out | apply below_alloc | apply pw_below_drewN | apply below_drew1 | refine below_set ?_ GE108.out) | exact HB.out)) hb); clear BK108; clear HB; have BK108 := n0_; have HB := n1_; clear n0_ n1_; (try clear hb); (try clear hb2); (try clear hk); (try clear hi))))
       go_ret2
       exact ⟨by first | rfl | (simp [errW_none, errW_some] <;> rfl) | (simp [*, errW_none, errW_some] <;> rfl), by repeat (first | (with_reducible first | exact HB.out | apply below_alloc | apply pw_below_drewN | apply below_drew1 | refine below_set ?_ GE108.out) | exact HB.out)⟩
     ·rw [if_neg c4] at H
      exact absurd H (by simp)
    ·rw [if_neg c3] at H
     have c3b0 : decide (x4_1 < (l0.length : Int)) = false := decide_eq_false c3
     clear c3
     simp only [Option.some.injEq, Prod.mk.injEq] at H
     obtain ⟨rfl, rfl⟩ := H
     go_wp2
     repeat (go_quiet (fail); try go_wp2)
     go_ret2
     exact ⟨by first | rfl | (simp [errW_none, errW_some] <;> rfl) | (simp [*, errW_none, errW_some] <;> rfl), by repeat (first | (with_reducible first | exact HB.out | apply below_alloc | apply pw_below_drewN | apply below_drew1) | exact HB.out)⟩
/-! ### truantlaw12_great: function 48 -/
def truantlaw12_great.l0 : Nat → List (S43) → Int → Option (Bool)
 | 0, _, _ => none
 | k + 1, x0, x3 => if x3 < (x0.length : Int) then (if 0 ≤ x3 then (if (((rd_T43 x0 x3).f1).length : Int) > 12 then (some true) else (truantlaw12_great.l0 k x0 (wrap64 (x3 + 1)))) else (none)) else (some false)
def truantlaw12_great.f (k : Nat) (l0 : List (S43)) : Option (Bool) := if (l0.length : Int) > 16 then (some true) else (truantlaw12_great.l0 k l0 0)
theorem truantlaw12_great.mono_l : ∀ k, (∀ y0 y1, LeO (truantlaw12_great.l0 k y0 y1) (truantlaw12_great.l0 (k + 1) y0 y1))
 | 0 => fun _ _ r h => by simp [truantlaw12_great.l0] at h
 | k + 1 => by
  have ih0 := truantlaw12_great.mono_l k
  ·intro y0 y1
   unfold truantlaw12_great.l0
   repeat' first
   | (with_reducible exact ih0 _ _)
   | (with_reducible exact LeO.refl _)
   | (with_reducible exact LeO.none _)
   | (with_reducible refine LeO.ite ?_ ?_)
   | (with_reducible refine LeO.bind ?_ (fun _ => ?_))
   | exact ih0 _ _
   | exact LeO.none _
   | refine LeO.ite ?_ ?_
   | refine LeO.bind ?_ (fun _ => ?_)
theorem truantlaw12_great.mono : ∀ a0 k, LeO (truantlaw12_great.f k a0) (truantlaw12_great.f (k + 1) a0) := by
 intro a0 k
 have ih0 := truantlaw12_great.mono_l k
 unfold truantlaw12_great.f
 repeat' first
   | (with_reducible exact ih0 _ _)
   | (with_reducible exact LeO.refl _)
   | (with_reducible exact LeO.none _)
   | (with_reducible refine LeO.ite ?_ ?_)
   | (with_reducible refine LeO.bind ?_ (fun _ => ?_))
   | exact ih0 _ _
   | exact LeO.none _
   | refine LeO.ite ?_ ?_
   | refine LeO.bind ?_ (fun _ => ?_)
set_option maxHeartbeats 8000000 in
set_option maxRecDepth 100000 in
theorem truantlaw12_great.calls (k : Nat) (A0 : Option Addr) (c0 : Nat) (l0 : List (S43)) (r : Bool) (w : World) (hr0 : Kd.C k43 w A0 l0.length l0) (hc0 : l0.length ≤ c0) (h : truantlaw12_great.f k l0 = some r) :
  Calls Try.prog 48 #[.slice A0 l0.length c0] w fun e w' => e = .returned (.bool r) ∧ Drawn0 w w' := by
 have HR0 := Aside0.mk hr0
 have HC0 := Aside0.mk hc0
 clear hr0 hc0
 have H : (if (l0.length : Int) > 16 then (some true) else (truantlaw12_great.l0 k l0 0)) = some r := h
 clear h
 by_cases c2 : (l0.length : Int) > 16
 ·rw [if_pos c2] at H
  have c2b0 : decide (16 < (l0.length : Int)) = true := decide_eq_true c2
  have c2b1 : decide (16 < l0.length) = true := decide_eq_true (by omega)
  clear c2
  obtain rfl := Option.some.inj H
  go_enter Try.func48, Try.ntmps48
  go_wp2
  go_ret
  exact ⟨by first | rfl | (simp; done) | (simp [*]; done), by repeat (first | exact Drawn0.refl _ | apply Drawn0.step)⟩
 ·rw [if_neg c2] at H
  have c2b0 : decide (16 < (l0.length : Int)) = false := decide_eq_false c2
  have c2b1 : decide (16 < l0.length) = false := decide_eq_false (by omega)
  clear c2
  have H' := Aside0.mk H
  clear H
  go_enter Try.func48, Try.ntmps48
  go_wp2
  go_loopg [3] k (fun kq v3 w' => ∃ (x3_1 : Int), v3 = .int .i64 x3_1 ∧ Aside0 (truantlaw12_great.l0 kq l0 x3_1 = some r) ∧ Aside0 (kq ≤ k) ∧ Drawn0 w w')
  case atStart => exact ⟨(0), (by first | rfl | (simp; done) | (simp [*]; done)), H', ⟨Nat.le_refl _⟩, by repeat (first | exact Drawn0.refl _ | apply Drawn0.step)⟩
  case round =>
   clear H'
   try clear c2
   try clear c2b0
   try clear c2b1
   try clear p2
   obtain ⟨x3_1, rfl, HA, HK1, ⟨m1, rfl⟩⟩ := hrel
   cases gk with
   | zero => exact absurd HA.out (by simp [truantlaw12_great.l0])
   | succ k1 =>
    have H := HA.out
    clear HA
    simp only [truantlaw12_great.l0] at H
    by_cases c3 : x3_1 < (l0.length : Int)
    ·rw [if_pos c3] at H
     have c3b0 : decide (x3_1 < (l0.length : Int)) = true := decide_eq_true c3
     clear c3
     by_cases c4 : 0 ≤ x3_1
     ·rw [if_pos c4] at H
      have c4b0 : decide (0 ≤ x3_1) = true := decide_eq_true c4
      clear c4
      by_cases c5 : (((rd_T43 l0 x3_1).f1).length : Int) > 12
      ·rw [if_pos c5] at H
       have c5b0 : decide (12 < (((rd_T43 l0 x3_1).f1).length : Int)) = true := decide_eq_true c5
       have c5b1 : decide (12 < ((rd_T43 l0 x3_1).f1).length) = true := decide_eq_true (by omega)
       clear c5
       obtain rfl := Option.some.inj H
       have p347 : 0 ≤ (x3_1 : Int) := of_decide_eq_true (by first | (with_reducible assumption) | assumption)
       have q347 : x3_1 < (l0.length : Int) := of_decide_eq_true (by first | (with_reducible assumption) | assumption)
       obtain ⟨ad347, A347_1, c347_1, e347, hx347_0, hx347_1, hl347_1, hi347_1⟩ := at_T43 HR0.out x3_1 p347 q347
       cases e347
       have HR347_1 := Aside0.mk hi347_1
       have HC347_1 := Aside0.mk hl347_1
       clear hi347_1 hl347_1
       replace p347 := eq_true p347
       replace q347 := eq_true q347
       go_wp2
       go_ret
       exact ⟨by first | rfl | (simp; done) | (simp [*]; done), by repeat (first | exact Drawn0.refl _ | apply Drawn0.step)⟩
      ·rw [if_neg c5] at H
       have c5b0 : decide (12 < (((rd_T43 l0 x3_1).f1).length : Int)) = false := decide_eq_false c5
       have c5b1 : decide (12 < ((rd_T43 l0 x3_1).f1).length) = false := decide_eq_false (by omega)
       clear c5
       have H' := Aside0.mk H
       clear H
       have p347 : 0 ≤ (x3_1 : Int) := of_decide_eq_true (by first | (with_reducible assumption) | assumption)
       have q347 : x3_1 < (l0.length : Int) := of_decide_eq_true (by first | (with_reducible assumption) | assumption)
       obtain ⟨ad347, A347_1, c347_1, e347, hx347_0, hx347_1, hl347_1, hi347_1⟩ := at_T43 HR0.out x3_1 p347 q347
       cases e347
       have HR347_1 := Aside0.mk hi347_1
       have HC347_1 := Aside0.mk hl347_1
       clear hi347_1 hl347_1
       replace p347 := eq_true p347
       replace q347 := eq_true q347
       go_wp2
       go_roundg k1
       case measure => have := HK1.out; omega
       case rel => exact ⟨(wrap64 (x3_1 + 1)), (by first | rfl | (simp; done) | (simp [*]; done)), H', ⟨by have := HK1.out; omega⟩, by repeat (first | exact Drawn0.refl _ | apply Drawn0.step)⟩
     ·rw [if_neg c4] at H
      exact absurd H (by simp)
    ·rw [if_neg c3] at H
     have c3b0 : decide (x3_1 < (l0.length : Int)) = false := decide_eq_false c3
     clear c3
     obtain rfl := Option.some.inj H
     go_wp2
     go_ret
     exact ⟨by first | rfl | (simp; done) | (simp [*]; done), by repeat (first | exact Drawn0.refl _ | apply Drawn0.step)⟩
/-! ### kind_Elem: function 17 -/
def kind_Elem.f (k : Nat) (a0 : ByteArray) : Option (ByteArray × Bool) := (strings_CutPrefix.f a0 (⟨#[42]⟩ : ByteArray)).bind fun bt154 => (if bt154.2 = true then ((lex_IsWord.f k bt154.1).bind fun t156 => (if t156 = true then (some (bt154.1, true)) else (some ((⟨#[]⟩ : ByteArray), false)))) else (some ((⟨#[]⟩ : ByteArray), false)))
theorem kind_Elem.mono : ∀ a0 k, LeO (kind_Elem.f k a0) (kind_Elem.f (k + 1) a0) := by
 intro a0 k
 unfold kind_Elem.f
 repeat' first
   | (with_reducible exact lex_IsWord.mono _ _)
   | (with_reducible exact LeO.refl _)
   | (with_reducible exact LeO.none _)
   | (with_reducible refine LeO.ite ?_ ?_)
   | (with_reducible refine LeO.bind ?_ (fun _ => ?_))
   | exact lex_IsWord.mono _ _
   | exact LeO.none _
   | refine LeO.ite ?_ ?_
   | refine LeO.bind ?_ (fun _ => ?_)
set_option maxHeartbeats 8000000 in
set_option maxRecDepth 100000 in
theorem kind_Elem.calls (k : Nat) (a0 : ByteArray) (r1 : ByteArray) (r2 : Bool) (w : World) (h : kind_Elem.f k a0 = some (r1, r2)) :
  Calls Try.prog 17 #[.string a0] w fun e w' => e = .returned (.tuple #[.string r1, .bool r2]) ∧ Below w.heap.size w w' := by
 have HB := Aside0.mk (Below.refl w.heap.size w)
 have H : ((strings_CutPrefix.f a0 (⟨#[42]⟩ : ByteArray)).bind fun bt154 => (if bt154.2 = true then ((lex_IsWord.f k bt154.1).bind fun t156 => (if t156 = true then (some (bt154.1, true)) else (some ((⟨#[]⟩ : ByteArray), false)))) else (some ((⟨#[]⟩ : ByteArray), false)))) = some (r1, r2) := h
 clear h
 replace H := Option.bind_eq_some_iff.mp H
 obtain ⟨⟨t154, t155⟩, A20, H⟩ := H
 replace H : (if t155 = true then ((lex_IsWord.f k t154).bind fun t156 => (if t156 = true then (some (t154, true)) else (some ((⟨#[]⟩ : ByteArray), false)))) else (some ((⟨#[]⟩ : ByteArray), false))) = some (r1, r2) := H
 have A2 := Aside0.mk A20
 clear A20
 by_cases c3 : t155 = true
 ·subst c3
  have H1 : ((lex_IsWord.f k t154).bind fun t156 => (if t156 = true then (some (t154, true)) else (some ((⟨#[]⟩ : ByteArray), false)))) = some (r1, r2) := by rw [if_pos rfl] at H; exact H
  clear H
  have H := H1
  clear H1
  replace H := Option.bind_eq_some_iff.mp H
  obtain ⟨t156, A40, H⟩ := H
  replace H : (if t156 = true then (some (t154, true)) else (some ((⟨#[]⟩ : ByteArray), false))) = some (r1, r2) := H
  have A4 := Aside0.mk A40
  clear A40
  by_cases c5 : t156 = true
  ·subst c5
   have H1 : (some (t154, true)) = some (r1, r2) := by rw [if_pos rfl] at H; exact H
   clear H
   have H := H1
   clear H1
   simp only [Option.some.injEq, Prod.mk.injEq] at H
   obtain ⟨rfl, rfl⟩ := H
   go_enter Try.func17, Try.ntmps17
   go_wp2_with (first | ((with_reducible refine gate_callee (f := 71) rfl ?_); refine goesL_ (some 8) rfl rfl Try.func71 (by kernel_rfl) rfl #[.string a0, .string (⟨#[42]⟩ : ByteArray)] rfl (by (try simp only [List.map_toArray, List.map_cons, List.map_nil]); first | done | rfl | (simp only [List.length_drop, List.length_take]; rfl)) ?_; (with_reducible refine (strings_CutPrefix.calls a0 (⟨#[42]⟩ : ByteArray) t154 true _ A2.out).mono ?_); rintro e w' ⟨rfl, ⟨nd, rfl⟩⟩; refine ⟨_, rfl, ?_⟩) | (go_at_call 72; (with_reducible refine (lex_IsWord.calls k t154 true _ A4.out).mono ?_); rintro e w6 ⟨rfl, hb⟩; have n0_ := Aside0.mk (below_step (by repeat (first | (with_reducible first | exact HB.out | apply below_alloc | apply pw_below_drewN | apply below_drew1) | exact HB.out)) hb); clear HB; have HB := n0_; clear n0_; (try clear hb); (try clear hb2); (try clear hk); (try clear hi)))
   go_ret2
   exact ⟨by first | rfl | (simp [errW_none, errW_some] <;> rfl) | (simp [*, errW_none, errW_some] <;> rfl), by repeat (first | (with_reducible first | exact HB.out | apply below_alloc | apply pw_below_drewN | apply below_drew1) | exact HB.out)⟩
  ·replace c5 := Bool.eq_false_iff.mpr c5
   subst c5
   have H1 : (some ((⟨#[]⟩ : ByteArray), false)) = some (r1, r2) := by rw [if_neg (show ¬ (false = true) by decide)] at H; exact H
   clear H
   have H := H1
   clear H1
   simp only [Option.some.injEq, Prod.mk.injEq] at H
   obtain ⟨rfl, rfl⟩ := H
   go_enter Try.func17, Try.ntmps17
   go_wp2_with (first | ((with_reducible refine gate_callee (f := 71) rfl ?_); refine goesL_ (some 8) rfl rfl Try.func71 (by kernel_rfl) rfl #[.string a0, .string (⟨#[42]⟩ : ByteArray)] rfl (by (try simp only [List.map_toArray, List.map_cons, List.map_nil]); first | done | rfl | (simp only [List.length_drop, List.length_take]; rfl)) ?_; (with_reducible refine (strings_CutPrefix.calls a0 (⟨#[42]⟩ : ByteArray) t154 true _ A2.out).mono ?_); rintro e w' ⟨rfl, ⟨nd, rfl⟩⟩; refine ⟨_, rfl, ?_⟩) | (go_at_call 72; (with_reducible refine (lex_IsWord.calls k t154 false _ A4.out).mono ?_); rintro e w7 ⟨rfl, hb⟩; have n0_ := Aside0.mk (below_step (by repeat (first | (with_reducible first | exact HB.out | apply below_alloc | apply pw_below_drewN | apply below_drew1) | exact HB.out)) hb); clear HB; have HB := n0_; clear n0_; (try clear hb); (try clear hb2); (try clear hk); (try clear hi)))
   go_ret2
   exact ⟨by first | rfl | (simp [errW_none, errW_some] <;> rfl) | (simp [*, errW_none, errW_some] <;> rfl), by repeat (first | (with_reducible first | exact HB.out | apply below_alloc | apply pw_below_drewN | apply below_drew1) | exact HB.out)⟩
 ·replace c3 := Bool.eq_false_iff.mpr c3
  subst c3
  have H1 : (some ((⟨#[]⟩ : ByteArray), false)) = some (r1, r2) := by rw [if_neg (show ¬ (false = true) by decide)] at H; exact H
  clear H
  have H := H1
  clear H1
  simp only [Option.some.injEq, Prod.mk.injEq] at H
  obtain ⟨rfl, rfl⟩ := H
  go_enter Try.func17, Try.ntmps17
  go_wp2_with (first | ((with_reducible refine gate_callee (f := 71) rfl ?_); refine goesL_ (some 8) rfl rfl Try.func71 (by kernel_rfl) rfl #[.string a0, .string (⟨#[42]⟩ : ByteArray)] rfl (by (try simp only [List.map_toArray, List.map_cons, List.map_nil]); first | done | rfl | (simp only [List.length_drop, List.length_take]; rfl)) ?_; (with_reducible refine (strings_CutPrefix.calls a0 (⟨#[42]⟩ : ByteArray) t154 false _ A2.out).mono ?_); rintro e w' ⟨rfl, ⟨nd, rfl⟩⟩; refine ⟨_, rfl, ?_⟩))
  go_ret2
  exact ⟨by first | rfl | (simp [errW_none, errW_some] <;> rfl) | (simp [*, errW_none, errW_some] <;> rfl), by repeat (first | (with_reducible first | exact HB.out | apply below_alloc | apply pw_below_drewN | apply below_drew1) | exact HB.out)⟩
/-! ### kind_Links: function 26 -/
def kind_Links.l0 : Nat → List Int → List (S48) → Int → Int → Option (List Int)
 | 0, _, _, _, _ => none
 | k + 1, x3, x9, x10, x11 => if x11 < x10 then (if 0 ≤ x11 then (if x11 < (x9.length : Int) then ((kind_Elem.f k ((rd_T48 x9 x11).f1)).bind fun bt160 => (if bt160.2 = true then (if x3.length < 17592186044416 then (kind_Links.l0 k (x3 ++ [x11]) x9 x10 (wrap64 (x11 + 1))) else (none)) else (kind_Links.l0 k x3 x9 x10 (wrap64 (x11 + 1))))) else (none)) else (none)) else (some x3)
def kind_Links.f (k : Nat) (a0_0 : ByteArray) (l0_1 : List (S48)) : Option (List Int) := kind_Links.l0 k ([] : List Int) l0_1 (l0_1.length : Int) 0
theorem kind_Links.mono_l : ∀ k, (∀ y0 y1 y2 y3, LeO (kind_Links.l0 k y0 y1 y2 y3) (kind_Links.l0 (k + 1) y0 y1 y2 y3))
 | 0 => fun _ _ _ _ r h => by simp [kind_Links.l0] at h
 | k + 1 => by
  have ih0 := kind_Links.mono_l k
  ·intro y0 y1 y2 y3
   unfold kind_Links.l0
   repeat' first
   | (with_reducible exact ih0 _ _ _ _)
   | (with_reducible exact kind_Elem.mono _ _)
   | (with_reducible exact LeO.refl _)
   | (with_reducible exact LeO.none _)
   | (with_reducible refine LeO.ite ?_ ?_)
   | (with_reducible refine LeO.bind ?_ (fun _ => ?_))
   | exact ih0 _ _ _ _
   | exact kind_Elem.mono _ _
   | exact LeO.none _
   | refine LeO.ite ?_ ?_
   | refine LeO.bind ?_ (fun _ => ?_)
theorem kind_Links.mono : ∀ a0 a1 k, LeO (kind_Links.f k a0 a1) (kind_Links.f (k + 1) a0 a1) := by
 intro a0 a1 k
 have ih0 := kind_Links.mono_l k
 unfold kind_Links.f
 repeat' first
   | (with_reducible exact ih0 _ _ _ _)
   | (with_reducible exact kind_Elem.mono _ _)
   | (with_reducible exact LeO.refl _)
   | (with_reducible exact LeO.none _)
   | (with_reducible refine LeO.ite ?_ ?_)
   | (with_reducible refine LeO.bind ?_ (fun _ => ?_))
   | exact ih0 _ _ _ _
   | exact kind_Elem.mono _ _
   | exact LeO.none _
   | refine LeO.ite ?_ ?_
   | refine LeO.bind ?_ (fun _ => ?_)
set_option maxHeartbeats 8000000 in
set_option maxRecDepth 100000 in
theorem kind_Links.calls (k : Nat) (a0_0 : ByteArray) (A0_1 : Option Addr) (c0_1 : Nat) (l0_1 : List (S48)) (r : List Int) (w : World) (hr0_1 : Kd.C k48 w A0_1 l0_1.length l0_1) (hc0_1 : l0_1.length ≤ c0_1) (h : kind_Links.f k a0_0 l0_1 = some r) :
  Calls Try.prog 26 #[.agg #[.string a0_0, .slice A0_1 l0_1.length c0_1]] w fun e w' => ∃ v0_ : Value, e = .returned (v0_) ∧ Kd.R (Kd.int .i64) 3 w' w.heap.size (fun _ => True) v0_ r ∧ Below w.heap.size w w' := by
 have hu43 := Try.underlying43
 have hu48 := Try.underlying48
 have HR0_1 := Aside0.mk hr0_1
 have HC0_1 := Aside0.mk hc0_1
 clear hr0_1 hc0_1
 have HB := Aside0.mk (Below.refl w.heap.size w)
 have H : (kind_Links.l0 k ([] : List Int) l0_1 (l0_1.length : Int) 0) = some r := h
 clear h
 have H' := Aside0.mk H
 clear H
 go_enter Try.func26, Try.ntmps26
 go_wp2_with (first | ((with_reducible refine gate_dst (N := 1) rfl ?_); refine box_event ?hg (N := 1) ?hd (cs := #[.string a0_0, .slice A0_1 l0_1.length c0_1]) (t := 43) ?hr ?_; (case hd => rfl); (case hg => rfl); (case hr => first | (go_simp; done) | (go_simp; rfl)); intro gb157 hg w2 hbox hb; have n0_ := Aside0.mk (below_step (by repeat (first | (with_reducible first | exact HB.out | apply below_alloc | apply pw_below_drewN | apply below_drew1) | exact HB.out)) hb); have n1_ := Aside0.mk (hbox); have n2_ := Aside0.mk ((by rw [hg]; exact (below_size (by repeat (first | (with_reducible first | exact HB.out | apply below_alloc | apply pw_below_drewN | apply below_drew1) | exact HB.out))) : w.heap.size ≤ gb157)); have n3_ := Aside0.mk ((by rw [hg]; exact (below_size (by repeat (first | (with_reducible first | exact HB.out | apply below_alloc | apply pw_below_drewN | apply below_drew1) | exact HB.out))) : w.heap.size ≤ gb157)); clear HB; have HB := n0_; have BK157 := n1_; have GW157 := n2_; have GE157 := n3_; clear n0_ n1_ n2_ n3_; clear hb hbox hg; have hcz3_0 : w2.cell? ⟨gb157, 0, none⟩ = some (.string a0_0) := (blk_cell BK157.out 0).trans rfl; have hcz3_1 : w2.cell? ⟨gb157, 1, none⟩ = some (.slice A0_1 l0_1.length c0_1) := (blk_cell BK157.out 1).trans rfl; have hfz3_0 := blk_frozen BK157.out 0; have hfz3_1 := blk_frozen BK157.out 1))
 go_loopg [3, 11] k (fun kq v3 v11 w' => ∃ (x3_1 : List Int) (x11_1 : Int), v11 = .int .i64 x11_1 ∧ Aside0 (kind_Links.l0 kq x3_1 l0_1 (l0_1.length : Int) x11_1 = some r) ∧ Aside0 (kq ≤ k) ∧ Aside0 (Kd.R (Kd.int .i64) 3 w' w.heap.size (fun _ => True) v3 x3_1) ∧ Aside0 (w'.heap[gb157]? = some (.cells #[.string a0_0, (.slice A0_1 l0_1.length c0_1)] 43 (0, 0))) ∧ Aside0 (Below w.heap.size w w'))
 case atStart => exact ⟨(([] : List Int)), (0), (by first | rfl | (simp; done) | (simp [*]; done)), H', ⟨Nat.le_refl _⟩, ⟨by first | exact Kd.R_nil _ _ _ _ _ | exact Kd.N_nil _ _ _ _ _ | exact Kd.V_nil _ _ _ _ _ | exact Kd.Q_nil _ _ _ _ _ | exact Kd.S_nil _ _ _ _ _⟩, ⟨by (with_reducible repeat (first | refine blk_drewN ?_ _ | refine blk_drew ?_ | refine blk_alloc ?_ _)); exact BK157.out⟩, ⟨by repeat (first | (with_reducible first | exact HB.out | apply below_alloc | apply pw_below_drewN | apply below_drew1 | refine below_set ?_ GE157.out) | exact HB.out)⟩⟩
 case round =>
  clear H'
  try clear c2
  try clear p2
  try clear hcz3_0
  try clear hcz3_1
  try clear hfz3_0
  try clear hfz3_1
  obtain ⟨x3_1, x11_1, rfl, HA, HK1, HO_3, BK157, HB⟩ := hrel
  cases gk with
  | zero => exact absurd HA.out (by simp [kind_Links.l0])
  | succ k1 =>
   have H := HA.out
   clear HA
   simp only [kind_Links.l0] at H
   by_cases c4 : x11_1 < (l0_1.length : Int)
   ·rw [if_pos c4] at H
    have c4b0 : decide (x11_1 < (l0_1.length : Int)) = true := decide_eq_true c4
    clear c4
    by_cases c5 : 0 ≤ x11_1
    ·rw [if_pos c5] at H
     have c5b0 : decide (0 ≤ x11_1) = true := decide_eq_true c5
     clear c5
     by_cases c6 : x11_1 < (l0_1.length : Int)
     ·rw [if_pos c6] at H
      have c6b0 : decide (x11_1 < (l0_1.length : Int)) = true := decide_eq_true c6
      clear c6
      replace H := Option.bind_eq_some_iff.mp H
      obtain ⟨⟨t160, t161⟩, A70, H⟩ := H
      replace H : (if t161 = true then (if x3_1.length < 17592186044416 then (kind_Links.l0 k1 (x3_1 ++ [x11_1]) l0_1 (l0_1.length : Int) (wrap64 (x11_1 + 1))) else (none)) else (kind_Links.l0 k1 x3_1 l0_1 (l0_1.length : Int) (wrap64 (x11_1 + 1)))) = some r := H
      have A7 := Aside0.mk A70
      clear A70
      by_cases c8 : t161 = true
      ·subst c8
       have H1 : (if x3_1.length < 17592186044416 then (kind_Links.l0 k1 (x3_1 ++ [x11_1]) l0_1 (l0_1.length : Int) (wrap64 (x11_1 + 1))) else (none)) = some r := by rw [if_pos rfl] at H; exact H
       clear H
       have H := H1
       clear H1
       by_cases c9 : x3_1.length < 17592186044416
       ·rw [if_pos c9] at H
        have LMc9 := Aside0.mk c9
        clear c9
        obtain ⟨y162, hy162⟩ : ∃ y_ : List Int, y_ = (x3_1 ++ [x11_1]) := ⟨_, rfl⟩
        replace H : (kind_Links.l0 k1 y162 l0_1 (l0_1.length : Int) (wrap64 (x11_1 + 1))) = some r := by first | (rw [hy162]; with_reducible exact H) | (have H2_ := (Option.bind_some _ _).symm.trans H; rw [hy162]; with_reducible exact H2_) | (have H2_ := (Option.bind_some _ _).symm.trans H; with_reducible exact H2_) | with_reducible exact H | (rw [hy162]; exact H) | exact H
        have Ny162 := Aside0.mk hy162
        clear hy162
        have H' := Aside0.mk H
        clear H
        have p158 : 0 ≤ (x11_1 : Int) := of_decide_eq_true (by first | (with_reducible assumption) | assumption)
        have q158 : x11_1 < (l0_1.length : Int) := of_decide_eq_true (by first | (with_reducible assumption) | assumption)
        obtain ⟨ad158, e158, hx158_0, hx158_1⟩ := at_T48 HR0_1.out x11_1 p158 q158
        cases e158
        replace hx158_0 := (HB.out.cell (World.block_lt_of_cell? w _ hx158_0)).trans hx158_0
        replace hx158_1 := (HB.out.cell (World.block_lt_of_cell? w _ hx158_1)).trans hx158_1
        replace p158 := eq_true p158
        replace q158 := eq_true q158
        go_wp2_with (first | ((with_reducible refine gate_dst (N := 5) rfl ?_); refine box_event ?hg (N := 5) ?hd (cs := #[.string (⟨#[]⟩ : ByteArray), .string (⟨#[]⟩ : ByteArray)]) (t := 48) ?hr ?_; (case hd => rfl); (case hg => rfl); (case hr => first | (go_simp; done) | (go_simp; rfl)); intro gb159 hg w10 hbox hb; have n0_ := Aside0.mk (Kd.R_below (by (with_reducible repeat (first | apply Kd.R_alloc | apply Kd.R_drewN | apply Kd.R_drew)); exact HO_3.out) hb); have n1_ := Aside0.mk (blk_below (g := gb157) (o := .cells #[.string a0_0, .slice (some ad158) l0_1.length c0_1] 43 (0, 0)) (by (with_reducible repeat (first | refine blk_drewN ?_ _ | refine blk_drew ?_ | refine blk_alloc ?_ _)); exact BK157.out) hb); have n2_ := Aside0.mk (below_step (by repeat (first | (with_reducible first | exact HB.out | apply below_alloc | apply pw_below_drewN | apply below_drew1 | refine below_set ?_ GE157.out) | exact HB.out)) hb); have n3_ := Aside0.mk (hbox); have n4_ := Aside0.mk ((by rw [hg]; exact (below_size (by repeat (first | (with_reducible first | exact HB.out | apply below_alloc | apply pw_below_drewN | apply below_drew1 | refine below_set ?_ GE157.out) | exact HB.out))) : w.heap.size ≤ gb159)); have n5_ := Aside0.mk ((by rw [hg]; exact (below_size (by repeat (first | (with_reducible first | exact HB.out | apply below_alloc | apply pw_below_drewN | apply below_drew1 | refine below_set ?_ GE157.out) | exact HB.out))) : w.heap.size ≤ gb159)); have n6_ := Aside0.mk ((by rw [hg]; exact Nat.ne_of_lt (blk_lt (g := gb157) (o := .cells #[.string a0_0, .slice (some ad158) l0_1.length c0_1] 43 (0, 0)) (by (with_reducible repeat (first | refine blk_drewN ?_ _ | refine blk_drew ?_ | refine blk_alloc ?_ _)); exact BK157.out)) : gb157 ≠ gb159)); have n7_ := Aside0.mk ((by rw [hg]; exact Nat.ne_of_gt (blk_lt (g := gb157) (o := .cells #[.string a0_0, .slice (some ad158) l0_1.length c0_1] 43 (0, 0)) (by (with_reducible repeat (first | refine blk_drewN ?_ _ | refine blk_drew ?_ | refine blk_alloc ?_ _)); exact BK157.out)) : gb159 ≠ gb157)); clear HO_3; clear BK157; clear HB; have HO_3 := n0_; have BK157 := n1_; have HB := n2_; have BK159 := n3_; have GW159 := n4_; have GE159 := n5_; have NB157_159 := n6_; have NB159_157 := n7_; clear n0_ n1_ n2_ n3_ n4_ n5_ n6_ n7_; clear hb hbox hg; have hnb11 := NB159_157.out; have hnc11 := NB157_159.out; have hcz12_0 : w10.cell? ⟨gb159, 0, none⟩ = some (.string (⟨#[]⟩ : ByteArray)) := (blk_cell BK159.out 0).trans rfl; have hcz12_1 : w10.cell? ⟨gb159, 1, none⟩ = some (.string (⟨#[]⟩ : ByteArray)) := (blk_cell BK159.out 1).trans rfl; have hfz12_0 := blk_frozen BK159.out 0; have hfz12_1 := blk_frozen BK159.out 1) | ((with_reducible refine gate_callee (f := 17) rfl ?_); refine goesL_ (some 19) rfl rfl Try.func17 (by kernel_rfl) rfl #[.string ((rd_T48 l0_1 x11_1).f1)] rfl (by (try simp only [List.map_toArray, List.map_cons, List.map_nil]); first | done | rfl | (simp only [List.length_drop, List.length_take]; rfl)) ?_; (with_reducible refine (kind_Elem.calls k1 ((rd_T48 l0_1 x11_1).f1) t160 true _ A7.out).mono ?_); rintro e w13 ⟨rfl, hb⟩; refine ⟨_, rfl, ?_⟩; have n0_ := Aside0.mk (Kd.R_below (by (with_reducible repeat (first | apply Kd.R_alloc | apply Kd.R_drewN | apply Kd.R_drew)); exact (Kd.R_mono (Kd.R_far (p := ⟨gb159, 1, none⟩) (Kd.R_far (p := ⟨gb159, 0, none⟩) (Kd.R_types HO_3.out BK159.out (by decide)) (fun _ hk => hk.2) (.string ((rd_T48 l0_1 x11_1).f0))) (fun _ hk => hk.2) (.string ((rd_T48 l0_1 x11_1).f1))) (fun _ h_ => h_.1))) hb); have n1_ := Aside0.mk (blk_below (g := gb157) (o := .cells #[.string a0_0, .slice (some ad158) l0_1.length c0_1] 43 (0, 0)) (by (with_reducible repeat (first | refine blk_drewN ?_ _ | refine blk_drew ?_ | refine blk_alloc ?_ _)); refine blk_far ?_ NB157_159.out _; (with_reducible repeat (first | refine blk_drewN ?_ _ | refine blk_drew ?_ | refine blk_alloc ?_ _)); refine blk_far ?_ NB157_159.out _; (with_reducible repeat (first | refine blk_drewN ?_ _ | refine blk_drew ?_ | refine blk_alloc ?_ _)); exact BK157.out) hb); have n2_ := Aside0.mk (blk_below (g := gb159) (o := .cells #[.string ((rd_T48 l0_1 x11_1).f0), .string ((rd_T48 l0_1 x11_1).f1)] 48 (0, 0)) (by (with_reducible repeat (first | refine blk_drewN ?_ _ | refine blk_drew ?_ | refine blk_alloc ?_ _)); refine blk_put (cs := #[.string ((rd_T48 l0_1 x11_1).f0), .string (⟨#[]⟩ : ByteArray)]) ?_ 1 _ rfl; (with_reducible repeat (first | refine blk_drewN ?_ _ | refine blk_drew ?_ | refine blk_alloc ?_ _)); refine blk_put (cs := #[.string (⟨#[]⟩ : ByteArray), .string (⟨#[]⟩ : ByteArray)]) ?_ 0 _ rfl; (with_reducible repeat (first | refine blk_drewN ?_ _ | refine blk_drew ?_ | refine blk_alloc ?_ _)); exact BK159.out) hb); have n3_ := Aside0.mk (below_step (by repeat (first | (with_reducible first | exact HB.out | apply below_alloc | apply pw_below_drewN | apply below_drew1 | refine below_set ?_ GE157.out | refine below_set ?_ GE159.out) | exact HB.out)) hb); clear HO_3; clear BK157; clear BK159; clear HB; have HO_3 := n0_; have BK157 := n1_; have BK159 := n2_; have HB := n3_; clear n0_ n1_ n2_ n3_; (try clear hb); (try clear hb2); (try clear hk); (try clear hi)) | ((with_reducible refine gate_builtin (b := .append) (xs := #[.tmp 23, .tmp 25]) rfl ?_); at_builtin; refine Kd.R_append (Kd.int .i64) (w0 := w) w.heap.size rfl (.tmp 23) (.tmp 25) 45 3 (.int .i64 0) 8 rfl Try.underlying45 info3 rfl (by decide) (by omega) u3 x3_1 x11_1 [.int .i64 x11_1] (fun _ => True) (fun _ => False) rfl rfl ?aP (fun _ hk => hk.elim) ?aF ?aO ?aB ?aS ?aL ?_; (case aP => exact rfl); (case aB => exact (by repeat (first | (with_reducible first | exact HB.out | apply below_alloc | apply pw_below_drewN | apply below_drew1 | refine below_set ?_ GE157.out | refine below_set ?_ GE159.out) | exact HB.out))); (case aF => exact (fun _ _ => trivial)); (case aO => exact (by (with_reducible repeat (first | apply Kd.R_alloc | apply Kd.R_drewN | apply Kd.R_drew)); exact HO_3.out)); (case aS => exact (below_size (by repeat (first | (with_reducible first | exact HB.out | apply below_alloc | apply pw_below_drewN | apply below_drew1 | refine below_set ?_ GE157.out | refine below_set ?_ GE159.out) | exact HB.out)))); (case aL => have := LMc9.out; omega); intro v163 w14 ho hb hg hat; rw [← Ny162.out] at ho; have n0_ := Aside0.mk (blk_grown (g := gb157) (o := .cells #[.string a0_0, .slice (some ad158) l0_1.length c0_1] 43 (0, 0)) (by (with_reducible repeat (first | refine blk_drewN ?_ _ | refine blk_drew ?_ | refine blk_alloc ?_ _)); exact BK157.out) hg (Kd.R_ne HO_3.out BK157.out (by decide))); have n1_ := Aside0.mk (blk_grown (g := gb159) (o := .cells #[.string ((rd_T48 l0_1 x11_1).f0), .string ((rd_T48 l0_1 x11_1).f1)] 48 (0, 0)) (by (with_reducible repeat (first | refine blk_drewN ?_ _ | refine blk_drew ?_ | refine blk_alloc ?_ _)); exact BK159.out) hg (Kd.R_ne HO_3.out BK159.out (by decide))); have n2_ := Aside0.mk (hb); have n3_ := Aside0.mk (ho); clear BK157; clear BK159; clear HB; clear HO_3; have BK157 := n0_; have BK159 := n1_; have HB := n2_; have HO164 := n3_; clear n0_ n1_ n2_ n3_; clear ho hb hg hat))
        go_roundg k1
        case measure => have := HK1.out; omega
        case rel => exact ⟨(y162), (wrap64 (x11_1 + 1)), (by first | rfl | (simp; done) | (simp [*]; done)), H', ⟨by have := HK1.out; omega⟩, ⟨by (with_reducible repeat (first | apply Kd.R_alloc | apply Kd.R_drewN | apply Kd.R_drew)); exact HO164.out⟩, ⟨by (with_reducible repeat (first | refine blk_drewN ?_ _ | refine blk_drew ?_ | refine blk_alloc ?_ _)); exact BK157.out⟩, ⟨by repeat (first | (with_reducible first | exact HB.out | apply below_alloc | apply pw_below_drewN | apply below_drew1 | refine below_set ?_ GE157.out | refine below_set ?_ GE159.out) | exact HB.out)⟩⟩
       ·rw [if_neg c9] at H
        exact absurd H (by simp)
      ·replace c8 := Bool.eq_false_iff.mpr c8
       subst c8
       have H1 : (kind_Links.l0 k1 x3_1 l0_1 (l0_1.length : Int) (wrap64 (x11_1 + 1))) = some r := by rw [if_neg (show ¬ (false = true) by decide)] at H; exact H
       clear H
       have H := H1
       clear H1
       have H' := Aside0.mk H
       clear H
       have p158 : 0 ≤ (x11_1 : Int) := of_decide_eq_true (by first | (with_reducible assumption) | assumption)
       have q158 : x11_1 < (l0_1.length : Int) := of_decide_eq_true (by first | (with_reducible assumption) | assumption)
       obtain ⟨ad158, e158, hx158_0, hx158_1⟩ := at_T48 HR0_1.out x11_1 p158 q158
       cases e158
       replace hx158_0 := (HB.out.cell (World.block_lt_of_cell? w _ hx158_0)).trans hx158_0
       replace hx158_1 := (HB.out.cell (World.block_lt_of_cell? w _ hx158_1)).trans hx158_1
       replace p158 := eq_true p158
       replace q158 := eq_true q158
       go_wp2_with (first | ((with_reducible refine gate_dst (N := 5) rfl ?_); refine box_event ?hg (N := 5) ?hd (cs := #[.string (⟨#[]⟩ : ByteArray), .string (⟨#[]⟩ : ByteArray)]) (t := 48) ?hr ?_; (case hd => rfl); (case hg => rfl); (case hr => first | (go_simp; done) | (go_simp; rfl)); intro gb159 hg w15 hbox hb; have n0_ := Aside0.mk (Kd.R_below (by (with_reducible repeat (first | apply Kd.R_alloc | apply Kd.R_drewN | apply Kd.R_drew)); exact HO_3.out) hb); have n1_ := Aside0.mk (blk_below (g := gb157) (o := .cells #[.string a0_0, .slice (some ad158) l0_1.length c0_1] 43 (0, 0)) (by (with_reducible repeat (first | refine blk_drewN ?_ _ | refine blk_drew ?_ | refine blk_alloc ?_ _)); exact BK157.out) hb); have n2_ := Aside0.mk (below_step (by repeat (first | (with_reducible first | exact HB.out | apply below_alloc | apply pw_below_drewN | apply below_drew1 | refine below_set ?_ GE157.out) | exact HB.out)) hb); have n3_ := Aside0.mk (hbox); have n4_ := Aside0.mk ((by rw [hg]; exact (below_size (by repeat (first | (with_reducible first | exact HB.out | apply below_alloc | apply pw_below_drewN | apply below_drew1 | refine below_set ?_ GE157.out) | exact HB.out))) : w.heap.size ≤ gb159)); have n5_ := Aside0.mk ((by rw [hg]; exact (below_size (by repeat (first | (with_reducible first | exact HB.out | apply below_alloc | apply pw_below_drewN | apply below_drew1 | refine below_set ?_ GE157.out) | exact HB.out))) : w.heap.size ≤ gb159)); have n6_ := Aside0.mk ((by rw [hg]; exact Nat.ne_of_lt (blk_lt (g := gb157) (o := .cells #[.string a0_0, .slice (some ad158) l0_1.length c0_1] 43 (0, 0)) (by (with_reducible repeat (first | refine blk_drewN ?_ _ | refine blk_drew ?_ | refine blk_alloc ?_ _)); exact BK157.out)) : gb157 ≠ gb159)); have n7_ := Aside0.mk ((by rw [hg]; exact Nat.ne_of_gt (blk_lt (g := gb157) (o := .cells #[.string a0_0, .slice (some ad158) l0_1.length c0_1] 43 (0, 0)) (by (with_reducible repeat (first | refine blk_drewN ?_ _ | refine blk_drew ?_ | refine blk_alloc ?_ _)); exact BK157.out)) : gb159 ≠ gb157)); clear HO_3; clear BK157; clear HB; have HO_3 := n0_; have BK157 := n1_; have HB := n2_; have BK159 := n3_; have GW159 := n4_; have GE159 := n5_; have NB157_159 := n6_; have NB159_157 := n7_; clear n0_ n1_ n2_ n3_ n4_ n5_ n6_ n7_; clear hb hbox hg; have hnb16 := NB159_157.out; have hnc16 := NB157_159.out; have hcz17_0 : w15.cell? ⟨gb159, 0, none⟩ = some (.string (⟨#[]⟩ : ByteArray)) := (blk_cell BK159.out 0).trans rfl; have hcz17_1 : w15.cell? ⟨gb159, 1, none⟩ = some (.string (⟨#[]⟩ : ByteArray)) := (blk_cell BK159.out 1).trans rfl; have hfz17_0 := blk_frozen BK159.out 0; have hfz17_1 := blk_frozen BK159.out 1) | ((with_reducible refine gate_callee (f := 17) rfl ?_); refine goesL_ (some 19) rfl rfl Try.func17 (by kernel_rfl) rfl #[.string ((rd_T48 l0_1 x11_1).f1)] rfl (by (try simp only [List.map_toArray, List.map_cons, List.map_nil]); first | done | rfl | (simp only [List.length_drop, List.length_take]; rfl)) ?_; (with_reducible refine (kind_Elem.calls k1 ((rd_T48 l0_1 x11_1).f1) t160 false _ A7.out).mono ?_); rintro e w18 ⟨rfl, hb⟩; refine ⟨_, rfl, ?_⟩; have n0_ := Aside0.mk (Kd.R_below (by (with_reducible repeat (first | apply Kd.R_alloc | apply Kd.R_drewN | apply Kd.R_drew)); exact (Kd.R_mono (Kd.R_far (p := ⟨gb159, 1, none⟩) (Kd.R_far (p := ⟨gb159, 0, none⟩) (Kd.R_types HO_3.out BK159.out (by decide)) (fun _ hk => hk.2) (.string ((rd_T48 l0_1 x11_1).f0))) (fun _ hk => hk.2) (.string ((rd_T48 l0_1 x11_1).f1))) (fun _ h_ => h_.1))) hb); have n1_ := Aside0.mk (blk_below (g := gb157) (o := .cells #[.string a0_0, .slice (some ad158) l0_1.length c0_1] 43 (0, 0)) (by (with_reducible repeat (first | refine blk_drewN ?_ _ | refine blk_drew ?_ | refine blk_alloc ?_ _)); refine blk_far ?_ NB157_159.out _; (with_reducible repeat (first | refine blk_drewN ?_ _ | refine blk_drew ?_ | refine blk_alloc ?_ _)); refine blk_far ?_ NB157_159.out _; (with_reducible repeat (first | refine blk_drewN ?_ _ | refine blk_drew ?_ | refine blk_alloc ?_ _)); exact BK157.out) hb); have n2_ := Aside0.mk (blk_below (g := gb159) (o := .cells #[.string ((rd_T48 l0_1 x11_1).f0), .string ((rd_T48 l0_1 x11_1).f1)] 48 (0, 0)) (by (with_reducible repeat (first | refine blk_drewN ?_ _ | refine blk_drew ?_ | refine blk_alloc ?_ _)); refine blk_put (cs := #[.string ((rd_T48 l0_1 x11_1).f0), .string (⟨#[]⟩ : ByteArray)]) ?_ 1 _ rfl; (with_reducible repeat (first | refine blk_drewN ?_ _ | refine blk_drew ?_ | refine blk_alloc ?_ _)); refine blk_put (cs := #[.string (⟨#[]⟩ : ByteArray), .string (⟨#[]⟩ : ByteArray)]) ?_ 0 _ rfl; (with_reducible repeat (first | refine blk_drewN ?_ _ | refine blk_drew ?_ | refine blk_alloc ?_ _)); exact BK159.out) hb); have n3_ := Aside0.mk (below_step (by repeat (first | (with_reducible first | exact HB.out | apply below_alloc | apply pw_below_drewN | apply below_drew1 | refine below_set ?_ GE157.out | refine below_set ?_ GE159.out) | exact HB.out)) hb); clear HO_3; clear BK157; clear BK159; clear HB; have HO_3 := n0_; have BK157 := n1_; have BK159 := n2_; have HB := n3_; clear n0_ n1_ n2_ n3_; (try clear hb); (try clear hb2); (try clear hk); (try clear hi)))
       go_roundg k1
       case measure => have := HK1.out; omega
       case rel => exact ⟨(x3_1), (wrap64 (x11_1 + 1)), (by first | rfl | (simp; done) | (simp [*]; done)), H', ⟨by have := HK1.out; omega⟩, ⟨by (with_reducible repeat (first | apply Kd.R_alloc | apply Kd.R_drewN | apply Kd.R_drew)); exact HO_3.out⟩, ⟨by (with_reducible repeat (first | refine blk_drewN ?_ _ | refine blk_drew ?_ | refine blk_alloc ?_ _)); exact BK157.out⟩, ⟨by repeat (first | (with_reducible first | exact HB.out | apply below_alloc | apply pw_below_drewN | apply below_drew1 | refine below_set ?_ GE157.out | refine below_set ?_ GE159.out) | exact HB.out)⟩⟩
     ·rw [if_neg c6] at H
      exact absurd H (by simp)
    ·rw [if_neg c5] at H
     exact absurd H (by simp)
   ·rw [if_neg c4] at H
    have c4b0 : decide (x11_1 < (l0_1.length : Int)) = false := decide_eq_false c4
    clear c4
    obtain rfl := Option.some.inj H
    go_wp2
    go_ret
    exact ⟨_, by first | rfl | (simp [errW_none, errW_some] <;> rfl) | (simp [*, errW_none, errW_some] <;> rfl), by (with_reducible repeat (first | apply Kd.R_alloc | apply Kd.R_drewN | apply Kd.R_drew)); exact HO_3.out, by repeat (first | (with_reducible first | exact HB.out | apply below_alloc | apply pw_below_drewN | apply below_drew1 | refine below_set ?_ GE157.out) | exact HB.out)⟩
end Go.Proofs.Ytonmlncejikbiaa.Q
/- A map to bools as a set of keys: laws for the walk; and small words on rows. -/
namespace Go.Proofs.Ytonmlncejikbiaa.Q
open Go.RowKit Go.Proofs.YtonmlncejikbiaaW.PrintWords Go.Proofs.YtonmlncejikbiaaW.PrintLast Go.Proofs.YtonmlncejikbiaaW.PrintMore
set_option linter.unusedVariables false
set_option linter.unusedSimpArgs false
open Go.Maps (Keyed)
/-- Block b of w is a map to bools: true at the keys of S, and at no others. -/
structure SetAt (w : World) (P : Program) (k e : TypeId) (b : Nat) (S : List Lit) : Prop where
 out : ∃ n D, w.ownsMap (H := Unit) P k (plainElem P e) b n D ∧ Maps.IsMap D ∧ n ≤ S.length ∧ ∀ x, WideAt.IsKeyLit x → D.atKey x (.lit (.bool false)) = .lit (.bool (decB (x ∈ S)))
section
variable {P : Program} {k e t : TypeId} {w w1 : World} {b : Nat} {S : List Lit}
theorem SetAt.made (w : World) (P : Program) (k e : TypeId) : SetAt (w.alloc (.map #[] 0)) P k e w.heap.size [] :=
 ⟨0, .map [], World.ownsMap_made _ _ _ _, Maps.isMap_empty, Nat.le_refl _, fun x _ => by rw [decB_false (by simp)]; rfl⟩
theorem SetAt.kept (h : SetAt w P k e b S) {row : Option Nat} (hg : w.grownBy w1 row) (hne : some b ≠ row) : SetAt w1 P k e b S := by
 obtain ⟨n, D, h1, h2⟩ := h
 exact ⟨n, D, h1.kept hg hne, h2⟩
theorem SetAt.below (h : SetAt w P k e b S) (hb : Below w.heap.size w w1) : SetAt w1 P k e b S := h.kept (grown_of_below hb none) (by simp)
theorem SetAt.alloc (h : SetAt w P k e b S) (o : Obj) : SetAt (w.alloc o) P k e b S := h.below (below_alloc (Below.refl _ _) o)
theorem SetAt.drewN (h : SetAt w P k e b S) (m : Nat) : SetAt (w.drewN m) P k e b S := h.below (pw_below_drewN (Below.refl _ _) m)
theorem SetAt.drew (h : SetAt w P k e b S) : SetAt w.drew P k e b S := h.below (below_drew (Below.refl _ _))
theorem plain_bool_inv {v : Value} {x : Bool} {ps : List MemPlace} (he : P.underlying e = some .bool) (h : plainElem (H := Unit) P e v = some (.lit (.bool x), ps)) : v = .bool x := by
 unfold plainElem at h
 rw [he] at h
 cases v <;> simp at h
 obtain ⟨rfl, _⟩ := h
 rfl
theorem SetAt.lookup (h : SetAt w P k e b S) (K : Keyed P k) (ht : P.underlying t = some (.map k e)) (he : P.underlying e = some .bool) (hz : (zeroValue e).run P w = .ok (.bool false) w)
  {key : Value} {kl : Lit} (hkey : keyOf P k key = some kl) (hkl : WideAt.IsKeyLit kl) : (Instr.lookup t (.map (some b)) key false).run P w = .ok (.bool (decB (kl ∈ S))) w := by
 obtain ⟨n, D, h1, h2, h3, h4⟩ := h
 obtain ⟨v, ps, hrun, hv⟩ := h1.lookup K ht hz (plainElem_bool he false) hkey
 rw [h4 kl hkl] at hv
 rw [hrun, plain_bool_inv he hv]
theorem decB_iff {p q : Prop} (h : p ↔ q) : decB p = decB q := by rw [propext h]
theorem SetAt.update_op {ops : Array Oper} {rest : List Oper} {o : Oper} {a : Act} {Q : Exit → Act → World → Prop} (h : SetAt w P k e b S)
  (hg : o.guard = none) (m x v : Operand) (hop : o.op = Op.mapUpdate t m x v) (K : Keyed P k) (ht : P.underlying t = some (.map k e)) (he : P.underlying e = some .bool)
  (hm : a.eval m = .map (some b)) (hn : S.length < maxLen) (key : Value) (kl : Lit) (hx : a.eval x = key) (hv : a.eval v = .bool true) (hkey : keyOf P k key = some kl) (hkl : WideAt.IsKeyLit kl)
  (hK : ∀ w', SetAt w' P k e b (kl :: S) → w.grownBy w' (some b) → wpList P ops Q rest (a.put o.dst undef) w') :
  wpList P ops Q (o :: rest) a w := by
 obtain ⟨n, D, h1, h2, h3, h4⟩ := h
 refine wpList_mapUpdate_own w hg m x v t hop k e K ht (plainElem P e) b n D hm h1 (by omega) key _ kl hx hv hkey _ [] (plainElem_bool he true) ?_
 intro w' ho hgr
 refine hK w' ⟨n + 1, D.put kl _, ho, h2.put _ _, by simp; omega, fun y hy => ?_⟩ hgr
 by_cases hyk : y = kl
 ·subst hyk
  rw [Maps.atKey_put_same h2 hy, decB_true (by simp)]
 ·rw [Maps.atKey_put_other hyk, h4 y hy]
  congr 2
  exact decB_iff (by simp [hyk])
end
theorem lit_R {α : Type} (d : Kd α) {W : World} (base e : Nat) {xs : List α} {inner : List Value} {ok okp : Nat → Prop}
  (hrep : Reps (d.M W base okp) d.sz xs inner) (hok : ∀ k, okp k → ok k) (hfresh : ok W.heap.size) (hbase : base ≤ W.heap.size) (hm : xs.length ≤ 9223372036854775807) :
  d.R e (W.alloc (.cells inner.toArray e)) base ok (.slice (some ⟨W.heap.size, 0, none⟩) xs.length xs.length) xs := by
 refine ⟨fun k hk => ?_, inner, ?_, ?_⟩
 ·have : W.heap.size = k := by simpa [Value.ownBlock] using hk
  subst this
  exact hfresh
 ·have h2 := World.ownsRow_lit (base := base) (e := e) (size := d.sz) W inner.toArray xs.length hbase (by simpa [maxLen] using hm) (by simpa using hrep.1)
  simpa using h2
 ·refine hrep.imp_ (fun p c hp => d.M_mono (fun k hk => ⟨hok k hk.1, fun he => ?_⟩) (Kd.M_below (d.M_bound hp) (below_alloc (Below.refl _ _) _)))
  have h3 : k = W.heap.size := by simpa [Value.ownBlock] using he
  have := hk.2.2.1
  omega
theorem SetAt.ne_own {α : Type} {P : Program} {k e : TypeId} {w : World} {b : Nat} {S : List Lit} {d : Kd α} {e' base : Nat} {ok : Nat → Prop} {v : Value} {xs : List α} (h : SetAt w P k e b S) (hq : d.Q e' w base ok v xs) : some b ≠ v.ownBlock := by
 intro he
 obtain ⟨cells, hc⟩ := Kd.Q_typed hq b he.symm
 obtain ⟨n, D, ⟨es, clock, hb, _⟩, _⟩ := h
 rw [hb] at hc
 cases hc
theorem at_scalar {α : Type} {enc : α → Value} {h1 : ∀ x, (enc x).oneCell' = true} {w : World} {A : Option Addr} {n : Nat} {xs : List α} (h : Kd.C (Kd.scalar enc h1) w A n xs) (z : α) (k : Nat) (hk : k < n) : ∃ ad, A = some ad ∧ w.cell? (ad.add k) = some (enc (xs.getD k z)) := by
 obtain ⟨e1, e2, h⟩ := h
 obtain ⟨ad, ea, h⟩ := h (by omega)
 have hl : k < xs.length := by omega
 obtain ⟨c, hc, hK, hcell⟩ := h k _ (List.getElem?_eq_getElem hl)
 refine ⟨ad, ea, ?_⟩
 have hK' : c = [enc xs[k]] := hK
 subst hK'
 have := hcell 0 _ rfl
 have e : k * (Kd.scalar enc h1).sz + 0 = k := by show k * 1 + 0 = k; omega
 rw [e] at this
 rw [this, getD_at xs z hl]
theorem at_int {q : IntKind} {w : World} {A : Option Addr} {n : Nat} {xs : List Int} (h : Kd.C (Kd.int q) w A n xs) (k : Nat) (hk : k < n) : ∃ ad, A = some ad ∧ w.cell? (ad.add k) = some (.int q (xs.getD k 0)) := at_scalar (enc := Value.int q) h _ k hk
/-- A queue's rest. -/
theorem cut_queue {α : Type} {d : Kd α} {P : Program} {t e : TypeId} {w : World} {base : Nat} {ok : Nat → Prop} {A : Option Addr} {c : Nat} {x : α} {xs : List α} (ht : P.underlying t = some (.slice e)) (hi : (P.info? e).map (·.size) = some d.sz)
  (h : d.Q e w base ok (.slice A (xs.length + 1) c) (x :: xs)) : ∃ A1 c1, (∀ W : World, (Instr.slice t (.slice A (xs.length + 1) c) (some (.int .i64 1)) none none).run P W = .ok (.slice A1 xs.length c1) W) ∧ d.Q e w base ok (.slice A1 xs.length c1) xs := by
 obtain ⟨i, hi, hs⟩ := Option.map_eq_some_iff.1 hi
 have h1 := cut_from (P := P) t e .i64 ht hi d.sz hs A (xs.length + 1) c 1 (by omega) (by omega)
 have h2 := Kd.Q_drop (k := 1) h (by simp)
 exact ⟨_, _, h1, h2⟩
/-- What a stack holds behind a pop. -/
theorem cut_stack {α : Type} {d : Kd α} {P : Program} {t e : TypeId} {w : World} {base : Nat} {ok : Nat → Prop} {A : Option Addr} {n c : Nat} {xs : List α} (ht : P.underlying t = some (.slice e)) (hi : (P.info? e).map (·.size) = some d.sz)
  (h : d.R e w base ok (.slice A n c) xs) (hn : n = xs.length) (hc : n ≤ c) (hp : 0 < n) : (∀ W : World, (Instr.slice t (.slice A n c) none (some (.int .i64 ((n : Int) - 1))) none).run P W = .ok (.slice A (n - 1) c) W) ∧ d.R e w base ok (.slice A (n - 1) c) (xs.take (n - 1)) := by
 obtain ⟨i, hi, hs⟩ := Option.map_eq_some_iff.1 hi
 have h1 := cut_to (P := P) t e .i64 ht hi A n c ((n : Int) - 1) (by omega) (by omega) hc
 have e1 : ((n : Int) - 1).toNat = n - 1 := by omega
 rw [e1] at h1
 exact ⟨h1, Kd.R_take h (by omega)⟩
end Go.Proofs.Ytonmlncejikbiaa.Q
/- slices.Clone: by hand. -/
namespace Go.Proofs.Ytonmlncejikbiaa.Q
open Go.RowKit Go.Proofs.YtonmlncejikbiaaW.PrintWords Go.Proofs.YtonmlncejikbiaaW.PrintLast Go.Proofs.YtonmlncejikbiaaW.PrintMore
set_option linter.unusedVariables false
set_option linter.unusedSimpArgs false
theorem info_field : (Try.prog.info? 48).map (fun i => (i.zero, i.size, i.bytes)) = some (some (.agg #[(.string ⟨#[]⟩), (.string ⟨#[]⟩)]), 2, 32) := by kernel_rfl
set_option maxRecDepth 100000 in
set_option maxHeartbeats 2000000 in
theorem clone_slices_Clone_int_int (A : Option Addr) (c : Nat) (l : List Int) (w : World) (hr : (Kd.int .i64).C w A l.length l) (hc : l.length ≤ c) (hl : l.length ≤ 1000000) :
  Calls Try.prog 82 #[.slice A l.length c] w fun e w' => ∃ v0_ : Value, e = .returned (v0_) ∧ Kd.R (Kd.int .i64) 3 w' w.heap.size (fun _ => True) v0_ l ∧ Below w.heap.size w w' := by
 have HR := Aside0.mk hr
 have HL := Aside0.mk hl
 cases A with
 | none =>
  have heq : ∀ W : World, (binOp .eql 45 (.slice none l.length c) (.slice none 0 0)).run Try.prog W = .ok (.bool true) W := fun W => rfl
  have h0 : l = [] := by
   by_cases h : 0 < l.length
   ·obtain ⟨ad, e, _⟩ := hr.2.2 h
    cases e
   ·exact List.eq_nil_of_length_eq_zero (by omega)
  have H0 := Aside0.mk h0; clear h0
  clear hr hl
  go_enter Try.func82, Try.ntmps82
  go_wp2
  go_ret
  exact ⟨_, rfl, by rw [H0.out]; exact Kd.R_nil _ _ _ _ _, Below.refl _ _⟩
 | some ad =>
  have heq : ∀ W : World, (binOp .eql 45 (.slice (some ad) l.length c) (.slice none 0 0)).run Try.prog W = .ok (.bool false) W := fun W => rfl
  clear hr hl
  go_enter Try.func82, Try.ntmps82
  go_wp2_with (first | ((with_reducible refine gate_dst (N := 5) rfl ?_); refine Kd.R_lit (Kd.int .i64) (w0 := w) w.heap.size 3 ?hg (N := 5) ?hd (xs := ([] : List Int)) (inner := []) (ok := fun _ => True) (okp := fun _ => True) ?hr ?hp (fun _ hk => hk) trivial (Below.refl _ _) (Nat.le_refl _) (by simp) ?_; (case hd => rfl); (case hg => rfl); (case hr => first | (go_simp; done) | (go_simp; rfl)); (case hp => exact Reps.none _ _); intro v1 w1 ho hb hg_ hnew_; have HO := Aside0.mk ho; have HB := Aside0.mk hb; clear ho hb hg_ hnew_) | ((with_reducible refine gate_builtin (b := .append) (xs := #[.tmp 5, .tmp 6]) rfl ?_); at_builtin; refine Kd.R_append_rows (Kd.int .i64) (Rr := (Kd.int .i64).K w1) (w0 := w) w.heap.size rfl (.tmp 5) (.tmp 6) 45 3 (.int .i64 0) 8 rfl Try.underlying45 info3 rfl (by decide) (by omega) v1 [] l (some ad) l.length c (fun _ => True) (fun _ => False) rfl rfl HO.out (Kd.C_below HR.out HB.out) (fun _ _ hk => hk) (fun _ hk => hk.elim) (fun _ _ => trivial) HB.out HB.out.size ?aL ?_; (case aL => have := HL.out; simp; omega); intro v2 w2 ho hb hg_ hat_; have HO2 := Aside0.mk ho; have HB2 := Aside0.mk hb; clear ho hb hg_ hat_))
  go_ret
  exact ⟨_, rfl, HO2.out, HB2.out⟩
def slices_Clone_int_int.f (l0 : List Int) : Option (List Int) := if l0.length ≤ 1000000 then some l0 else none
theorem slices_Clone_int_int.calls (A0 : Option Addr) (c0 : Nat) (l0 : List Int) (r : List Int) (w : World) (hr0 : Kd.C (Kd.int .i64) w A0 l0.length l0) (hc0 : l0.length ≤ c0) (h : slices_Clone_int_int.f l0 = some r) :
  Calls Try.prog 82 #[.slice A0 l0.length c0] w fun e w' => ∃ v0_ : Value, e = .returned (v0_) ∧ Kd.R (Kd.int .i64) 3 w' w.heap.size (fun _ => True) v0_ r ∧ Below w.heap.size w w' := by
 unfold slices_Clone_int_int.f at h
 split at h
 case isFalse => cases h
 rename_i hl
 obtain rfl := Option.some.inj h
 exact clone_slices_Clone_int_int A0 c0 l0 w hr0 hc0 hl
set_option maxRecDepth 100000 in
set_option maxHeartbeats 2000000 in
theorem clone_api_Field_ (A : Option Addr) (c : Nat) (l : List S48) (w : World) (hr : k48.C w A l.length l) (hc : l.length ≤ c) (hl : l.length ≤ 1000000) :
  Calls Try.prog 80 #[.slice A l.length c] w fun e w' => ∃ v0_ : Value, e = .returned (v0_) ∧ Kd.R k48 48 w' w.heap.size (fun _ => True) v0_ l ∧ Below w.heap.size w w' := by
 have HR := Aside0.mk hr
 have HL := Aside0.mk hl
 cases A with
 | none =>
  have heq : ∀ W : World, (binOp .eql 41 (.slice none l.length c) (.slice none 0 0)).run Try.prog W = .ok (.bool true) W := fun W => rfl
  have h0 : l = [] := by
   by_cases h : 0 < l.length
   ·obtain ⟨ad, e, _⟩ := hr.2.2 h
    cases e
   ·exact List.eq_nil_of_length_eq_zero (by omega)
  have H0 := Aside0.mk h0; clear h0
  clear hr hl
  go_enter Try.func80, Try.ntmps80
  go_wp2
  go_ret
  exact ⟨_, rfl, by rw [H0.out]; exact Kd.R_nil _ _ _ _ _, Below.refl _ _⟩
 | some ad =>
  have heq : ∀ W : World, (binOp .eql 41 (.slice (some ad) l.length c) (.slice none 0 0)).run Try.prog W = .ok (.bool false) W := fun W => rfl
  clear hr hl
  go_enter Try.func80, Try.ntmps80
  go_wp2_with (first | ((with_reducible refine gate_dst (N := 5) rfl ?_); refine Kd.R_lit k48 (w0 := w) w.heap.size 48 ?hg (N := 5) ?hd (xs := ([] : List S48)) (inner := []) (ok := fun _ => True) (okp := fun _ => True) ?hr ?hp (fun _ hk => hk) trivial (Below.refl _ _) (Nat.le_refl _) (by simp) ?_; (case hd => rfl); (case hg => rfl); (case hr => first | (go_simp; done) | (go_simp; rfl)); (case hp => exact Reps.none _ _); intro v1 w1 ho hb hg_ hnew_; have HO := Aside0.mk ho; have HB := Aside0.mk hb; clear ho hb hg_ hnew_) | ((with_reducible refine gate_builtin (b := .append) (xs := #[.tmp 5, .tmp 6]) rfl ?_); at_builtin; refine Kd.R_append_rows k48 (Rr := k48.K w1) (w0 := w) w.heap.size rfl (.tmp 5) (.tmp 6) 41 48 (.agg #[(.string ⟨#[]⟩), (.string ⟨#[]⟩)]) 32 rfl Try.underlying41 info_field rfl (by decide) (by omega) v1 [] l (some ad) l.length c (fun _ => True) (fun _ => False) rfl rfl HO.out (Kd.C_below HR.out HB.out) (fun _ _ hk => hk) (fun _ hk => hk.elim) (fun _ _ => trivial) HB.out HB.out.size ?aL ?_; (case aL => have := HL.out; simp; omega); intro v2 w2 ho hb hg_ hat_; have HO2 := Aside0.mk ho; have HB2 := Aside0.mk hb; clear ho hb hg_ hat_))
  go_ret
  exact ⟨_, rfl, HO2.out, HB2.out⟩
def api_Field_80.f (l0 : List S48) : Option (List S48) := if l0.length ≤ 1000000 then some l0 else none
theorem api_Field_80.calls (A0 : Option Addr) (c0 : Nat) (l0 : List S48) (r : List S48) (w : World) (hr0 : Kd.C k48 w A0 l0.length l0) (hc0 : l0.length ≤ c0) (h : api_Field_80.f l0 = some r) :
  Calls Try.prog 80 #[.slice A0 l0.length c0] w fun e w' => ∃ v0_ : Value, e = .returned (v0_) ∧ Kd.R k48 48 w' w.heap.size (fun _ => True) v0_ r ∧ Below w.heap.size w w' := by
 unfold api_Field_80.f at h
 split at h
 case isFalse => cases h
 rename_i hl
 obtain rfl := Option.some.inj h
 exact clone_api_Field_ A0 c0 l0 w hr0 hc0 hl
def kOb : Kd (Int × List Int) := Kd.pair (Kd.int .i64) (Kd.slice 3 (Kd.int .i64))
theorem kOb_open {w : World} {x : Int × List Int} {cs : List Value} (h : kOb.K w x cs) : ∃ A1 c1, cs = [.int .i64 x.1, .slice A1 x.2.length c1] ∧ x.2.length ≤ c1 ∧ (Kd.int .i64).C w A1 x.2.length x.2 := by
 obtain ⟨_, _, rfl, rfl, ⟨A1, c1, rfl, l1, g1⟩⟩ := h
 exact ⟨A1, c1, rfl, l1, g1⟩
theorem kOb_openM {w : World} {base : Nat} {ok : Nat → Prop} {x : Int × List Int} {cs : List Value} (h : kOb.M w base ok x cs) : ∃ v1, cs = [.int .i64 x.1, v1] ∧ (Kd.int .i64).R 3 w base ok v1 x.2 := by
 obtain ⟨_, _, rfl, rfl, ⟨v1, rfl, g1⟩⟩ := h
 exact ⟨v1, rfl, g1⟩
theorem kOb_mkM (w : World) (base : Nat) (ok : Nat → Prop) (x : Int × List Int) {v1 : Value} (g1 : (Kd.int .i64).R 3 w base ok v1 x.2) : kOb.M w base ok x [.int .i64 x.1, v1] := ⟨[.int .i64 x.1], [v1], rfl, rfl, ⟨v1, rfl, g1⟩⟩
def rdO (xs : List (Int × List Int)) (i : Int) : Int × List Int := xs.getD i.toNat (0, [])
theorem at_O {w : World} {A : Option Addr} {n : Nat} {xs : List (Int × List Int)} (h : Kd.C kOb w A n xs) (i : Int) (h0 : 0 ≤ i) (h1 : i < n) : ∃ ad A1 c1, A = some ad ∧ w.cell? (ad.add (i.toNat * 2)) = some (.int .i64 (rdO xs i).1) ∧ w.cell? ⟨(ad.add (i.toNat * 2)).block, (ad.add (i.toNat * 2)).off + 1, none⟩ = some (.slice A1 (rdO xs i).2.length c1) ∧ (rdO xs i).2.length ≤ c1 ∧ (Kd.int .i64).C w A1 (rdO xs i).2.length (rdO xs i).2 := by
 obtain ⟨ad, c, e, _, hK, hc0⟩ := Kd.C_get h (0, []) i h0 h1
 have hc : ∀ j u, c[j]? = some u → w.cell? (ad.add (i.toNat * 2 + j)) = some u := hc0
 obtain ⟨A1, c1, rfl, l1, g1⟩ := kOb_open hK
 exact ⟨ad, A1, c1, e, hc 0 _ rfl, by rw [← add_field _ _ 1 (by omega)]; exact hc 1 _ rfl, l1, g1⟩
/-- A heap: block g (type tH) holds its structs, only read (in sok), and its objects (type tO), each with a row of its own (in lok). -/
structure Hp (tH tO : Nat) (W : World) (base g : Nat) (sv lv : Value) (S : List S43) (L : List (Int × List Int)) (sok lok : Nat → Prop) : Prop where
 blk : W.heap[g]? = some (.cells #[sv, lv] tH (0, 0))
 low : base ≤ g
 sts : Kd.V k43 43 W base sok sv S
 lst : Kd.S kOb tO W base lok lv L
 sap : ∀ k, sok k → k ≠ g ∧ ¬ lok k ∧ k < W.heap.size
 lap : ∀ k, lok k → k ≠ g ∧ base ≤ k ∧ k < W.heap.size
section
variable {tH tO base g : Nat} {W W1 : World} {sv lv : Value} {S : List S43} {L : List (Int × List Int)} {sok lok T : Nat → Prop}
theorem Hp.kept (h : Hp tH tO W base g sv lv S L sok lok) (hk : Kept W W1 T) (hg : ¬ T g) (hs : ∀ k, sok k → ¬ T k) (hl : ∀ k, lok k → ¬ T k) : Hp tH tO W1 base g sv lv S L sok lok where
 blk := (hk.2 g (blk_lt h.blk) hg).trans h.blk
 low := h.low
 sts := Kd.V_kept h.sts hk hs
 lst := Kd.S_kept h.lst hk hl
 sap := fun k hk1 => ⟨(h.sap k hk1).1, (h.sap k hk1).2.1, Nat.lt_of_lt_of_le (h.sap k hk1).2.2 hk.1⟩
 lap := fun k hk1 => ⟨(h.lap k hk1).1, (h.lap k hk1).2.1, Nat.lt_of_lt_of_le (h.lap k hk1).2.2 hk.1⟩
theorem Hp.below (h : Hp tH tO W base g sv lv S L sok lok) (hb : Below W.heap.size W W1) : Hp tH tO W1 base g sv lv S L sok lok :=
 h.kept (Kept.of_below hb (fun _ => False)) (fun x => x) (fun _ _ x => x) (fun _ _ x => x)
/-- What is read of an object. -/
theorem Hp.elem (h : Hp tH tO W base g sv lv S L sok lok) (i : Int) (h0 : 0 ≤ i) (h1 : i < (L.length : Int)) :
  ∃ ad cl A1 c1, lv = .slice (some ad) L.length cl ∧ L.length ≤ cl ∧ W.cell? (ad.add (i.toNat * 2)) = some (.int .i64 (rdO L i).1) ∧ W.cell? ⟨(ad.add (i.toNat * 2)).block, (ad.add (i.toNat * 2)).off + 1, none⟩ = some (.slice A1 (rdO L i).2.length c1) ∧ (rdO L i).2.length ≤ c1 ∧ (Kd.int .i64).C W A1 (rdO L i).2.length (rdO L i).2 := by
 obtain ⟨A, c, rfl, hc, hC⟩ := Kd.S_reads h.lst
 obtain ⟨ad, A1, c1, rfl, h2, h3, h4, h5⟩ := at_O hC i h0 h1
 exact ⟨ad, c, A1, c1, rfl, hc, h2, h3, h4, h5⟩
/-- The list's value. -/
theorem Hp.list (h : Hp tH tO W base g sv lv S L sok lok) : ∃ A c, lv = .slice A L.length c ∧ L.length ≤ c ∧ L.length ≤ 9223372036854775807 := by
 obtain ⟨A, c, e, hc, hC⟩ := Kd.S_reads h.lst
 exact ⟨A, c, e, hc, Kd.C_max hC⟩
theorem Hp.structs (h : Hp tH tO W base g sv lv S L sok lok) : ∃ A c, sv = .slice A S.length c ∧ S.length ≤ c ∧ Kd.C k43 W A S.length S := by
 obtain ⟨A, c, rfl⟩ := Kd.V_slice h.sts
 obtain ⟨_, h1, h2⟩ := Kd.V_reads' h.sts
 exact ⟨A, c, rfl, h1, h2⟩
/-- A number of an object is written. -/
theorem Hp.lend (h : Hp tH tO W base g sv lv S L sok lok) (i f : Int) (h0 : 0 ≤ i) (h1 : i < (L.length : Int)) (f0 : 0 ≤ f) (f1 : f < ((rdO L i).2.length : Int)) :
  ∃ ad cl b cp, lv = .slice (some ad) L.length cl ∧ L.length ≤ cl ∧ W.cell? ⟨(ad.add (i.toNat * 2)).block, (ad.add (i.toNat * 2)).off + 1, none⟩ = some (.slice (some ⟨b, 0, none⟩) (rdO L i).2.length cp) ∧ (rdO L i).2.length ≤ cp ∧ W.cell? ⟨b, f.toNat, none⟩ = some (.int .i64 (rd (rdO L i).2 f)) ∧ W.frozen? ⟨b, f.toNat, none⟩ = false ∧
   ∀ n : Int, Hp tH tO (W.setCell ⟨b, f.toNat, none⟩ (.int .i64 n)) base g sv lv S (L.set i.toNat ((rdO L i).1, (rdO L i).2.set f.toNat n)) sok lok ∧ Kept W (W.setCell ⟨b, f.toNat, none⟩ (.int .i64 n)) lok ∧ Below base W (W.setCell ⟨b, f.toNat, none⟩ (.int .i64 n)) := by
 obtain ⟨A, cl, rfl, hc, hC⟩ := Kd.S_reads h.lst
 obtain ⟨ad, A1, c1, rfl, _, h3, h4, _⟩ := at_O hC i h0 h1
 obtain ⟨oki, cs, hcl, hM, hcc, hok, hput⟩ := Kd.S_borrow h.lst (0, []) i h0 (by simpa using h1)
 obtain ⟨v1, rfl, hR⟩ := kOb_openM hM
 have hcell := hcc 1 v1 rfl
 have e2 : kOb.sz = 2 := rfl
 rw [e2, add_field _ _ 1 (by omega)] at hcell
 have hv : v1 = .slice A1 (rdO L i).2.length c1 := Option.some.inj (hcell.symm.trans h3)
 obtain ⟨b, cp, hf, hb0, hb1, _⟩ := Kd.R_form hR (show 0 < (L.getD i.toNat (0, [])).2.length by have : (rdO L i).2.length = (L.getD i.toNat (0, [])).2.length := rfl; omega)
 have hR2 : (Kd.int .i64).R 3 W base oki (.slice (some ⟨b, 0, none⟩) (rdO L i).2.length cp) (rdO L i).2 := by rw [hf] at hR; exact hR
 obtain ⟨c2, hc2, hM2, hcc2, hfz⟩ := Kd.R_elem hR2 0 f f0 f1
 have hM2' : c2 = [.int .i64 ((rdO L i).2.getD f.toNat 0)] := hM2
 have hcl2 := hcc2 0 _ (by rw [hM2']; rfl)
 have hfz2 := hfz 0
 have e1 : f.toNat * (Kd.int .i64).sz + 0 = f.toNat := by show f.toNat * 1 + 0 = f.toNat; omega
 rw [e1] at hcl2 hfz2
 have hokb : oki b := hR2.1 b rfl
 have hnl := Kd.R_reads' hR2
 refine ⟨ad, cl, b, cp, rfl, hc, by rw [h3, ← hv, hf]; rfl, by have := hnl.2.1; exact this, hcl2, hfz2, fun n => ?_⟩
 obtain ⟨q1, q2⟩ := Kd.R_putg (enc := Value.int .i64) hR2 f n
 have hne : b ≠ g := (h.lap b (hok b hokb).1).1
 have hkept : Kept W (W.setCell ⟨b, f.toNat, none⟩ (.int .i64 n)) lok := Kept.of_grown q2 (Kept.refl W lok) (fun k hk => .inl (by injection hk with hk; rw [← hk]; exact (hok b hokb).1))
 refine ⟨⟨?_, h.low, Kd.V_kept h.sts hkept (fun k hk => (h.sap k hk).2.1), ?_, fun k hk => ⟨(h.sap k hk).1, (h.sap k hk).2.1, Nat.lt_of_lt_of_le (h.sap k hk).2.2 hkept.1⟩, fun k hk => ⟨(h.lap k hk).1, (h.lap k hk).2.1, Nat.lt_of_lt_of_le (h.lap k hk).2.2 hkept.1⟩⟩, hkept, (Below.refl base W).setCell (h.lap b (hok b hokb).1).2.1 _⟩
 ·exact (hkept.2 g (blk_lt h.blk) (fun hk => (h.lap g hk).1 rfl)).trans h.blk
 ·have hx : kOb.M (W.setCell ⟨b, f.toNat, none⟩ (.int .i64 n)) base oki ((rdO L i).1, (rdO L i).2.set f.toNat n) [.int .i64 (L.getD i.toNat (0, [])).1, v1] := by
   rw [hf]
   exact kOb_mkM _ base oki ((rdO L i).1, (rdO L i).2.set f.toNat n) (by
    have e3 : ((rdO L i).2.set f.toNat n).length = (rdO L i).2.length := List.length_set
    exact q1)
  exact hput (x' := ((rdO L i).1, (rdO L i).2.set f.toNat n)) q2 (fun k hk => by injection hk with hk; rw [← hk]; exact hokb) hx
/-- An object comes behind the others. -/
theorem Hp.appended (h : Hp tH tO W base g sv lv S L sok lok) {v1 : Value} {p : Int × List Int} {ok : Nat → Prop} (hS : Kd.S kOb tO W1 base ok v1 (L ++ [p])) (hg : W.grownBy W1 lv.ownBlock) (hok : ∀ k, ok k → k ≠ g ∧ ¬ sok k) :
  W1.heap[g]? = some (.cells #[sv, lv] tH (0, 0)) ∧ ∃ lok', Hp tH tO (W1.setCell ⟨g, 1, none⟩ v1) base g sv v1 S (L ++ [p]) sok lok' ∧ (∀ k, lok' k → ok k) ∧ Kept W (W1.setCell ⟨g, 1, none⟩ v1) (fun k => k = g ∨ lok k) ∧ Below base W (W1.setCell ⟨g, 1, none⟩ v1) := by
 have hk1 : Kept W W1 lok := Kept.of_grown hg (Kept.refl W lok) (fun k hk => .inl ((Kd.S_R h.lst).1 k hk))
 have hb1 := (hk1.2 g (blk_lt h.blk) (fun x => (h.lap g x).1 rfl)).trans h.blk
 have hb2 : (W1.setCell ⟨g, 1, none⟩ v1).heap[g]? = some (.cells #[sv, v1] tH (0, 0)) := blk_put hb1 1 v1 rfl
 have hk2 : Kept W (W1.setCell ⟨g, 1, none⟩ v1) (fun k => k = g ∨ lok k) := Kept.setCell (hk1.mono (fun k hk => .inr hk)) (.inl (.inl rfl)) v1
 have hsz : (W1.setCell ⟨g, 1, none⟩ v1).heap.size = W1.heap.size := by simp [World.setCell]
 have hS2 := Kd.S_mono (ok' := fun k => ok k ∧ base ≤ k ∧ k < W1.heap.size) (Kd.S_bound hS) (fun k hk => ⟨hk.1, hk.2.1, hk.2.2.1⟩)
 refine ⟨hb1, fun k => ok k ∧ base ≤ k ∧ k < W1.heap.size, ⟨hb2, h.low, ?_, Kd.S_far hS2 (p := ⟨g, 1, none⟩) (fun k hk => (hok k hk.1).1) v1, ?_, ?_⟩, fun k hk => hk.1, hk2, ((Below.refl base W).grown hg (Nat.le_trans h.low (Nat.le_of_lt (blk_lt h.blk))) (fun k hk => Kd.S_base h.lst k hk)).setCell h.low _⟩
 ·exact Kd.V_kept h.sts hk2 (fun k hk => by
   rintro (e | e)
   ·exact (h.sap k hk).1 e
   ·exact (h.sap k hk).2.1 e)
 ·exact fun k hk => ⟨(h.sap k hk).1, fun hl => (hok k hl.1).2 hk, Nat.lt_of_lt_of_le (h.sap k hk).2.2 hk2.1⟩
 ·exact fun k hk => ⟨(hok k hk.1).1, hk.2.1, by rw [hsz]; exact hk.2.2⟩
end
abbrev HP := Hp 116 119
abbrev ptr (g : Nat) : Value := .pointer (some ⟨g, 0, none⟩)
section
variable {base g : Nat} {w : World} {sv lv : Value} {S : List S43} {L : List (Int × List Int)} {sok lok : Nat → Prop}
end
def atO (S : List S43) (name : ByteArray) : Int := findR (nameIs name) S
def zerosO (S : List S43) (i : Int) : List Int := List.replicate (rd_T43 S i).f1.length 0
theorem infoInt : (Try.prog.info? 3).map (fun i => (i.zero, i.size, i.bytes)) = some (some (.int .i64 0), (Kd.int .i64).sz, 8) := by kernel_rfl
section
variable {base g : Nat} {w : World} {sv lv : Value} {S : List S43} {L : List (Int × List Int)} {sok lok : Nat → Prop}
end
theorem S_toV {α : Type} {d : Kd α} {e base base' : Nat} {w : World} {ok : Nat → Prop} {v : Value} {xs : List α} (h : Kd.S d e w base ok v xs) : Kd.V d e w base' ok v xs := by
 obtain ⟨A, c, rfl, hc, _⟩ := Kd.S_reads h
 exact Kd.V_mk hc (fun W' hW => (Kd.S_reads' (Kd.S_step h hW)).2.2)
theorem take_next {α : Type} (l : List α) (z : α) {i : Nat} (hi : i < l.length) : l.take (i + 1) = l.take i ++ [l.getD i z] := by
 rw [List.take_succ_eq_append_getElem hi, getD_at l z hi]
theorem infoSt : (Try.prog.info? 43).map (fun i => (i.zero, i.size, i.bytes)) = some (some (.agg #[.string ⟨#[]⟩, .slice none 0 0]), k43.sz, 40) := by kernel_rfl
end Go.Proofs.Ytonmlncejikbiaa.Q
-- (laid by the kit's lay-shelf and lay-plain at this seat's dump)
/- The library's contracts at this program. -/
namespace Go.Proofs
open Go.Shelf
def Try.lays210_ren : Go.Shelf.Ren := ⟨fun | 210 => 98 | 206 => 105 | n => n, fun | 9 => 9 | 4 => 4 | 3 => 3 | n => n, fun | n => n⟩
theorem Try.lays210 : Go.Proofs.Lays.n210 Try.prog Try.lays210_ren := {
 mixed := by kernel_rfl
 f206 := Try.func105.trans (congrArg some (by kernel_rfl))
 f210 := Try.func98.trans (congrArg some (by kernel_rfl))
 t3 := Try.underlying3
 a3 := Try.isAgg3
 z3 := Try.sizeOf3
 v3 := Try.zeroValue3
 t4 := Try.underlying4
 a4 := Try.isAgg4
 z4 := Try.sizeOf4
 v4 := Try.zeroValue4
 t9 := Try.underlying9
 a9 := Try.isAgg9
 z9 := Try.sizeOf9
 v9 := Try.zeroValue9 }
open Go.RowKit in
theorem Try.stringslite_CutPrefix (s p : ByteArray) (w : World) :
  Calls Try.prog 98 #[.string s, .string p] w fun e w' => e = .returned (.tuple #[.string ⟨(Lib.trimPrefix s.data.toList p.data.toList).toArray⟩, .bool (Lib.hasPrefix s.data.toList p.data.toList)]) ∧ w' = w := Any.stringslite_CutPrefix Try.lays210 s p w
def Try.lays103_ren : Go.Shelf.Ren := ⟨fun | 103 => 71 | 210 => 98 | 206 => 105 | n => n, fun | 9 => 9 | 4 => 4 | 24 => 30 | 3 => 3 | n => n, fun | n => n⟩
theorem Try.lays103 : Go.Proofs.Lays.n103 Try.prog Try.lays103_ren := {
 mixed := by kernel_rfl
 f103 := Try.func71.trans (congrArg some (by kernel_rfl))
 f206 := Try.func105.trans (congrArg some (by kernel_rfl))
 f210 := Try.func98.trans (congrArg some (by kernel_rfl))
 t3 := Try.underlying3
 a3 := Try.isAgg3
 z3 := Try.sizeOf3
 v3 := Try.zeroValue3
 t4 := Try.underlying4
 a4 := Try.isAgg4
 z4 := Try.sizeOf4
 v4 := Try.zeroValue4
 t9 := Try.underlying9
 a9 := Try.isAgg9
 z9 := Try.sizeOf9
 v9 := Try.zeroValue9
 t24 := Try.underlying30
 a24 := Try.isAgg30
 z24 := Try.sizeOf30
 v24 := Try.zeroValue30 }
open Go.RowKit in
theorem Try.strings_CutPrefix (s p : ByteArray) (w : World) :
  Calls Try.prog 71 #[.string s, .string p] w fun e w' => e = .returned (.tuple #[.string ⟨(Lib.trimPrefix s.data.toList p.data.toList).toArray⟩, .bool (Lib.hasPrefix s.data.toList p.data.toList)]) ∧ w' = w := Any.strings_CutPrefix Try.lays103 s p w
def Try.lays189_ren : Go.Shelf.Ren := ⟨fun | 189 => 84 | 125 => 102 | 257 => 101 | 128 => 121 | 129 => 122 | 294 => 112 | 295 => 113 | 296 => 114 | 297 => 115 | 298 => 116 | 299 => 117 | 216 => 118 | 300 => 119 | 301 => 120 | 328 => 124 | 329 => 125 | 330 => 126 | 331 => 127 | 332 => 128 | 215 => 129 | 343 => 130 | n => n, fun | 28 => 45 | 3 => 3 | 46 => 134 | 0 => 0 | 51 => 149 | 53 => 151 | 4 => 4 | 183 => 142 | 182 => 141 | 131 => 32 | 5 => 5 | 9 => 9 | 218 => 153 | 222 => 157 | 228 => 159 | 229 => 28 | n => n, fun | n => n⟩
theorem Try.lays189 : Go.Proofs.Lays.n189 Try.prog Try.lays189_ren := {
 mixed := by kernel_rfl
 f125 := Try.func102.trans (congrArg some (by kernel_rfl))
 f128 := Try.func121.trans (congrArg some (by kernel_rfl))
 f129 := Try.func122.trans (congrArg some (by kernel_rfl))
 f189 := Try.func84.trans (congrArg some (by kernel_rfl))
 f215 := Try.func129.trans (congrArg some (by kernel_rfl))
 f216 := Try.func118.trans (congrArg some (by kernel_rfl))
 f257 := Try.func101.trans (congrArg some (by kernel_rfl))
 f294 := Try.func112.trans (congrArg some (by kernel_rfl))
 f295 := Try.func113.trans (congrArg some (by kernel_rfl))
 f296 := Try.func114.trans (congrArg some (by kernel_rfl))
 f297 := Try.func115.trans (congrArg some (by kernel_rfl))
 f298 := Try.func116.trans (congrArg some (by kernel_rfl))
 f299 := Try.func117.trans (congrArg some (by kernel_rfl))
 f300 := Try.func119.trans (congrArg some (by kernel_rfl))
 f301 := Try.func120.trans (congrArg some (by kernel_rfl))
 f328 := Try.func124.trans (congrArg some (by kernel_rfl))
 f329 := Try.func125.trans (congrArg some (by kernel_rfl))
 f330 := Try.func126.trans (congrArg some (by kernel_rfl))
 f331 := Try.func127.trans (congrArg some (by kernel_rfl))
 f332 := Try.func128.trans (congrArg some (by kernel_rfl))
 f343 := Try.func130.trans (congrArg some (by kernel_rfl))
 t0 := Try.underlying0
 a0 := Try.isAgg0
 z0 := Try.sizeOf0
 v0 := Try.zeroValue0
 t3 := Try.underlying3
 a3 := Try.isAgg3
 z3 := Try.sizeOf3
 v3 := Try.zeroValue3
 t4 := Try.underlying4
 a4 := Try.isAgg4
 z4 := Try.sizeOf4
 v4 := Try.zeroValue4
 t5 := Try.underlying5
 a5 := Try.isAgg5
 z5 := Try.sizeOf5
 v5 := Try.zeroValue5
 t9 := Try.underlying9
 a9 := Try.isAgg9
 z9 := Try.sizeOf9
 v9 := Try.zeroValue9
 t28 := Try.underlying45
 a28 := Try.isAgg45
 z28 := Try.sizeOf45
 v28 := Try.zeroValue45
 t46 := Try.underlying134
 a46 := Try.isAgg134
 z46 := Try.sizeOf134
 v46 := Try.zeroValue134
 t51 := Try.underlying149
 a51 := Try.isAgg149
 z51 := Try.sizeOf149
 v51 := Try.zeroValue149
 t53 := Try.underlying151
 a53 := Try.isAgg151
 z53 := Try.sizeOf151
 v53 := Try.zeroValue151
 t131 := Try.underlying32
 a131 := Try.isAgg32
 z131 := Try.sizeOf32
 v131 := Try.zeroValue32
 t182 := Try.underlying141
 a182 := Try.isAgg141
 z182 := Try.sizeOf141
 v182 := Try.zeroValue141
 t183 := Try.underlying142
 a183 := Try.isAgg142
 z183 := Try.sizeOf142
 v183 := Try.zeroValue142
 t218 := Try.underlying153
 a218 := Try.isAgg153
 z218 := Try.sizeOf153
 v218 := Try.zeroValue153
 t222 := Try.underlying157
 a222 := Try.isAgg157
 z222 := Try.sizeOf157
 v222 := Try.zeroValue157
 t228 := Try.underlying159
 a228 := Try.isAgg159
 z228 := Try.sizeOf159
 v228 := Try.zeroValue159
 t229 := Try.underlying28
 a229 := Try.isAgg28
 z229 := Try.sizeOf28
 v229 := Try.zeroValue28 }
open Go.Sort Go.RowKit in
theorem Try.slices_Sort_int (blk off cap : Nat) (zs : List Int) (w : World) (hH : Holds (Value.int .i64) w blk off zs.toArray) (hblk : blk < w.heap.size) (hsz : zs.length < 4611686018427387904) :
  Calls Try.prog 84 #[.slice (some ⟨blk, off, none⟩) zs.length cap] w fun e w' =>
   e = .returned (.tuple #[]) ∧ ∃ n os, w' = grow (putRow (Value.int .i64) (Sort.ahead w n) blk off (zs.mergeSort fun x y => decide (x ≤ y)).toArray) os := Any.slices_Sort_int Try.lays189 blk off cap zs w hH hblk hsz
def Try.lays206_ren : Go.Shelf.Ren := ⟨fun | 206 => 105 | n => n, fun | 9 => 9 | 4 => 4 | 3 => 3 | n => n, fun | n => n⟩
theorem Try.lays206 : Go.Proofs.Lays.n206 Try.prog Try.lays206_ren := {
 mixed := by kernel_rfl
 f206 := Try.func105.trans (congrArg some (by kernel_rfl))
 t3 := Try.underlying3
 a3 := Try.isAgg3
 z3 := Try.sizeOf3
 v3 := Try.zeroValue3
 t4 := Try.underlying4
 a4 := Try.isAgg4
 z4 := Try.sizeOf4
 v4 := Try.zeroValue4
 t9 := Try.underlying9
 a9 := Try.isAgg9
 z9 := Try.sizeOf9
 v9 := Try.zeroValue9 }
open Go.RowKit Go.Lib in
theorem Try.stringslite_HasPrefix (s p : ByteArray) (w : World) :
  Calls Try.prog 105 #[.string s, .string p] w fun e w' => e = .returned (.bool (Lib.hasPrefix s.data.toList p.data.toList)) ∧ w' = w := Any.stringslite_HasPrefix Try.lays206 s p w
open Go.RowKit Go.Sort in
theorem Try.slices_Sort_int_none (p : Option Addr) (cap : Nat) (w : World) :
  Calls Try.prog 84 #[.slice p 0 cap] w fun e w' => e = .returned (.tuple #[]) ∧ w' = w := Any.slices_Sort_int_none Try.lays189 p cap w
end Go.Proofs
/- Rows of ints of one's own under the library's Sort, Compact: the shelf's contracts in the words of the printed walks. -/
namespace Go.Proofs.Ytonmlncejikbiaa.Q
open Go.RowKit Go.Proofs.YtonmlncejikbiaaW.PrintWords Go.Proofs.YtonmlncejikbiaaW.PrintLast Go.Proofs.YtonmlncejikbiaaW.PrintMore
set_option linter.unusedVariables false
set_option linter.unusedSimpArgs false
open Go.Sort Go.Shelf Go.Lib
section
variable {e base : Nat} {ok : Nat → Prop} {w : World} {v : Value} {xs : List Int}
theorem int_row (h : (Kd.int .i64).R e w base ok v xs) : (v = .slice none 0 0 ∧ xs = []) ∨ ∃ g c, v = .slice (some ⟨g, 0, none⟩) xs.length c ∧ xs.length ≤ c ∧ c ≤ maxLen ∧ Holds (Value.int .i64) w g 0 xs.toArray ∧ g < w.heap.size ∧ base ≤ g ∧
  ∀ (q : Nat) (os : Array Obj) (ts : List Int), ts.length = xs.length → (Kd.int .i64).R e (grow (putRow (Value.int .i64) (Sort.ahead w q) g 0 ts.toArray) os) base ok (.slice (some ⟨g, 0, none⟩) xs.length c) ts ∧ w.grownBy (grow (putRow (Value.int .i64) (Sort.ahead w q) g 0 ts.toArray) os) (some g) := by
 have ho := Kd.own_of_R h
 rcases ho.2 with ⟨h1, h2⟩ | ⟨g, cap, cur, rfl, hbase, hb, h1, h2, h3, h4⟩
 ·left
  have hl := (Kd.R_own h).choose_spec.1
  refine ⟨h1, ?_⟩
  rw [h1] at h
  obtain ⟨hn, _⟩ := Kd.R_reads' h
  exact List.eq_nil_of_length_eq_zero hn.symm
 ·right
  refine ⟨g, cap, rfl, h1, h2, holds_of_blockI hb (by simpa [encs] using h4), (Array.getElem?_eq_some_iff.1 hb).1, hbase, fun q os ts hl => ⟨?_, grownBy_sortedI _⟩⟩
  have hs := ownsRow_sortedI (n := q) (os := os) (ts := ts) (ss := xs) hl hbase hb h1 h2 h3
  exact Kd.R_of_own (by rw [hl]; exact hs) (fun k hk => h.1 k hk)
end
theorem grown_self (w : World) (row : Option Nat) : w.grownBy w row := ⟨rfl, rfl, rfl, Nat.le_refl _, fun _ _ _ => rfl⟩
theorem sort_R {base : Nat} {ok : Nat → Prop} {w : World} {v : Value} {xs : List Int} (h : (Kd.int .i64).R 3 w base ok v xs) (hsz : xs.length < 4611686018427387904) :
  Calls Try.prog 84 #[v] w fun e w' => e = .returned (.tuple #[]) ∧ (Kd.int .i64).R 3 w' base ok v (xs.mergeSort fun x y => decide (x ≤ y)) ∧ w.grownBy w' v.ownBlock := by
 rcases int_row h with ⟨rfl, rfl⟩ | ⟨g, c, rfl, h1, h2, h3, h4, h5, h6⟩
 ·refine (Try.slices_Sort_int_none none 0 w).mono ?_
  rintro e w' ⟨rfl, rfl⟩
  exact ⟨rfl, by rw [List.mergeSort_nil]; exact Kd.R_nil _ _ _ _ _, grown_self _ _⟩
 ·refine (Try.slices_Sort_int g 0 c xs w h3 h4 hsz).mono ?_
  rintro e w' ⟨rfl, n, os, rfl⟩
  obtain ⟨q1, q2⟩ := h6 n os (xs.mergeSort fun x y => decide (x ≤ y)) (List.length_mergeSort _)
  exact ⟨rfl, q1, q2⟩
end Go.Proofs.Ytonmlncejikbiaa.Q
/- A heap's Of and Near: by hand; the drawn region is written by wip/tool/genA.py. -/
namespace Go.Proofs.Ytonmlncejikbiaa.Q
open Go.RowKit Go.Proofs.YtonmlncejikbiaaW.PrintWords Go.Proofs.YtonmlncejikbiaaW.PrintLast Go.Proofs.YtonmlncejikbiaaW.PrintMore
set_option linter.unusedVariables false
set_option linter.unusedSimpArgs false
theorem infoIn : (Try.prog.info? 3).map (fun i => (i.zero, i.size, i.bytes)) = some (some (.int .i64 0), (Kd.int .i64).sz, 8) := by kernel_rfl
theorem take_nextI (l : List Int) (z : Int) {i : Nat} (hi : i < l.length) : l.take (i + 1) = l.take i ++ [l.getD i z] := by
 rw [List.take_succ_eq_append_getElem hi, getD_at l z hi]
section
variable {base g : Nat} {w : World} {sv lv : Value} {S : List S43} {L : List (Int × List Int)} {sok lok : Nat → Prop}
end
end Go.Proofs.Ytonmlncejikbiaa.Q
/- A heap's Reach: by hand, for whatever 'is' and 'Near' answer. -/
namespace Go.Proofs.Ytonmlncejikbiaa.Q
open Go.RowKit Go.Proofs.YtonmlncejikbiaaW.PrintWords Go.Proofs.YtonmlncejikbiaaW.PrintLast Go.Proofs.YtonmlncejikbiaaW.PrintMore
set_option linter.unusedVariables false
set_option linter.unusedSimpArgs false
open Go.Maps (Keyed)
def LIMR : Nat := 1099511627776
/-- The stack: what is reached. -/
def reachQ (isF : Int → Bool) (near : Int → Option (List Int)) : Nat → List Int → List Int → Option (List Int)
 | 0, _, _ => none
 | k + 1, todo, out =>
  if 0 < todo.length then
   (if isF (rd todo ((todo.length - 1 : Nat) : Int)) = true ∧ out.contains (rd todo ((todo.length - 1 : Nat) : Int)) = false then
    (near (rd todo ((todo.length - 1 : Nat) : Int))).bind fun ns =>
     if todo.length + ns.length < LIMR ∧ out.length < LIMR then reachQ isF near k (todo.take (todo.length - 1) ++ ns) (out ++ [rd todo ((todo.length - 1 : Nat) : Int)]) else none
   else reachQ isF near k (todo.take (todo.length - 1)) out)
  else some out
def ik (x : Int) : Lit := .int .i64 x
theorem ik_has (x : Int) (l : List Int) : decB (ik x ∈ l.map ik) = l.contains x := by
 have e : ik x ∈ l.map ik ↔ l.contains x = true := by
  rw [List.contains_iff_mem, List.mem_map]
  constructor
  ·rintro ⟨y, hy, e⟩
   unfold ik at e
   injection e with _ e
   rwa [e] at hy
  ·intro h; exact ⟨x, h, rfl⟩
 cases h : l.contains x
 ·exact decB_false (by rw [e, h]; simp)
 ·exact decB_true (by rw [e]; exact h)
theorem set_perm {w : World} {P : Program} {k e : TypeId} {b : Nat} {S S' : List Lit} (h : SetAt w P k e b S) (hm : ∀ x, x ∈ S' ↔ x ∈ S) (hl : S.length ≤ S'.length) : SetAt w P k e b S' := by
 obtain ⟨n, D, h1, h2, h3, h4⟩ := h
 exact ⟨n, D, h1, h2, Nat.le_trans h3 hl, fun x hx => by rw [h4 x hx]; congr 2; exact decB_iff (hm x).symm⟩
theorem zeroBo (w : World) : (zeroValue 4).run Try.prog w = .ok (.bool false) w := by kernel_rfl
theorem wf_small {x : Int} (h0 : 1 ≤ x) (h1 : x ≤ 1099511627776) : (Lit.int .i64 x).wf = true := by
 simp [Lit.wf, IntKind.min, IntKind.max, IntKind.signed, IntKind.bits]
 omega
end Go.Proofs.Ytonmlncejikbiaa.Q
/- The anchor of chapter 6: by hand. -/
namespace Go.Proofs.Ytonmlncejikbiaa.Q
open Go.RowKit Go.Proofs.YtonmlncejikbiaaW.PrintWords Go.Proofs.YtonmlncejikbiaaW.PrintLast Go.Proofs.YtonmlncejikbiaaW.PrintMore
set_option linter.unusedVariables false
set_option linter.unusedSimpArgs false
section
variable {base g : Nat} {w : World} {sv lv : Value} {sok lok : Nat → Prop}
end
end Go.Proofs.Ytonmlncejikbiaa.Q
