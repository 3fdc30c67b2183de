/- What the row of HeapKeeps rests on, part 1: contracts of the functions that it reaches, and the plain law. -/
import Derived.Test.YtonmlncejikbiaaJHeapKeeps0
namespace Go.Proofs.Ytonmlncejikbiaa.Q
open Go.RowKit Go.Proofs.YtonmlncejikbiaaW.PrintWords Go.Proofs.YtonmlncejikbiaaW.PrintLast Go.Proofs.YtonmlncejikbiaaW.PrintMore
attribute [local go_sem] max2_int min2_int max_two min_two max_three min_three max_four min_four   -- for this text's walks alone
set_option linter.unusedVariables false
set_option linter.unusedSimpArgs false
/-! ### kind_Links: function 26 -/
def kind_Links.l0 : Nat → List Int → List (S48) → Int → Int → Option (List Int)
 | 0, _, _, _, _ => none
 | k + 1, x3, x9, x10, x11 => if x11 < x10 then (if 0 ≤ x11 then (if x11 < (x9.length : Int) then ((kind_Elem.f k ((rd_T48 x9 x11).f1)).bind fun bt160 => (if bt160.2 = true then (if x3.length < 17592186044416 then (kind_Links.l0 k (x3 ++ [x11]) x9 x10 (wrap64 (x11 + 1))) else (none)) else (kind_Links.l0 k x3 x9 x10 (wrap64 (x11 + 1))))) else (none)) else (none)) else (some x3)
def kind_Links.f (k : Nat) (a0_0 : ByteArray) (l0_1 : List (S48)) : Option (List Int) := kind_Links.l0 k ([] : List Int) l0_1 (l0_1.length : Int) 0
theorem kind_Links.mono_l : ∀ k, (∀ y0 y1 y2 y3, LeO (kind_Links.l0 k y0 y1 y2 y3) (kind_Links.l0 (k + 1) y0 y1 y2 y3))
 | 0 => fun _ _ _ _ r h => by simp [kind_Links.l0] at h
 | k + 1 => by
  have ih0 := kind_Links.mono_l k
  ·intro y0 y1 y2 y3
   unfold kind_Links.l0
   repeat' first
   | (with_reducible exact ih0 _ _ _ _)
   | (with_reducible exact kind_Elem.mono _ _)
   | (with_reducible exact LeO.refl _)
   | (with_reducible exact LeO.none _)
   | (with_reducible refine LeO.ite ?_ ?_)
   | (with_reducible refine LeO.bind ?_ (fun _ => ?_))
   | exact ih0 _ _ _ _
   | exact kind_Elem.mono _ _
   | exact LeO.none _
   | refine LeO.ite ?_ ?_
   | refine LeO.bind ?_ (fun _ => ?_)
theorem kind_Links.mono : ∀ a0 a1 k, LeO (kind_Links.f k a0 a1) (kind_Links.f (k + 1) a0 a1) := by
 intro a0 a1 k
 have ih0 := kind_Links.mono_l k
 unfold kind_Links.f
 repeat' first
   | (with_reducible exact ih0 _ _ _ _)
   | (with_reducible exact kind_Elem.mono _ _)
   | (with_reducible exact LeO.refl _)
   | (with_reducible exact LeO.none _)
   | (with_reducible refine LeO.ite ?_ ?_)
   | (with_reducible refine LeO.bind ?_ (fun _ => ?_))
   | exact ih0 _ _ _ _
   | exact kind_Elem.mono _ _
   | exact LeO.none _
   | refine LeO.ite ?_ ?_
   | refine LeO.bind ?_ (fun _ => ?_)
set_option maxHeartbeats 8000000 in
set_option maxRecDepth 100000 in
theorem kind_Links.calls (k : Nat) (a0_0 : ByteArray) (A0_1 : Option Addr) (c0_1 : Nat) (l0_1 : List (S48)) (r : List Int) (w : World) (hr0_1 : Kd.C k48 w A0_1 l0_1.length l0_1) (hc0_1 : l0_1.length ≤ c0_1) (h : kind_Links.f k a0_0 l0_1 = some r) :
  Calls Try.prog 26 #[.agg #[.string a0_0, .slice A0_1 l0_1.length c0_1]] w fun e w' => ∃ v0_ : Value, e = .returned (v0_) ∧ Kd.R (Kd.int .i64) 3 w' w.heap.size (fun _ => True) v0_ r ∧ Below w.heap.size w w' := by
 have hu43 := Try.underlying43
 have hu48 := Try.underlying48
 have HR0_1 := Aside0.mk hr0_1
 have HC0_1 := Aside0.mk hc0_1
 clear hr0_1 hc0_1
 have HB := Aside0.mk (Below.refl w.heap.size w)
 have H : (kind_Links.l0 k ([] : List Int) l0_1 (l0_1.length : Int) 0) = some r := h
 clear h
 have H' := Aside0.mk H
 clear H
 go_enter Try.func26, Try.ntmps26
 go_wp2_with (first | ((with_reducible refine gate_dst (N := 1) rfl ?_); refine box_event ?hg (N := 1) ?hd (cs := #[.string a0_0, .slice A0_1 l0_1.length c0_1]) (t := 43) ?hr ?_; (case hd => rfl); (case hg => rfl); (case hr => first | (go_simp; done) | (go_simp; rfl)); intro gb157 hg w2 hbox hb; have n0_ := Aside0.mk (below_step (by repeat (first | (with_reducible first | exact HB.out | apply below_alloc | apply pw_below_drewN | apply below_drew1) | exact HB.out)) hb); have n1_ := Aside0.mk (hbox); have n2_ := Aside0.mk ((by rw [hg]; exact (below_size (by repeat (first | (with_reducible first | exact HB.out | apply below_alloc | apply pw_below_drewN | apply below_drew1) | exact HB.out))) : w.heap.size ≤ gb157)); have n3_ := Aside0.mk ((by rw [hg]; exact (below_size (by repeat (first | (with_reducible first | exact HB.out | apply below_alloc | apply pw_below_drewN | apply below_drew1) | exact HB.out))) : w.heap.size ≤ gb157)); clear HB; have HB := n0_; have BK157 := n1_; have GW157 := n2_; have GE157 := n3_; clear n0_ n1_ n2_ n3_; clear hb hbox hg; have hcz3_0 : w2.cell? ⟨gb157, 0, none⟩ = some (.string a0_0) := (blk_cell BK157.out 0).trans rfl; have hcz3_1 : w2.cell? ⟨gb157, 1, none⟩ = some (.slice A0_1 l0_1.length c0_1) := (blk_cell BK157.out 1).trans rfl; have hfz3_0 := blk_frozen BK157.out 0; have hfz3_1 := blk_frozen BK157.out 1))
 go_loopg [3, 11] k (fun kq v3 v11 w' => ∃ (x3_1 : List Int) (x11_1 : Int), v11 = .int .i64 x11_1 ∧ Aside0 (kind_Links.l0 kq x3_1 l0_1 (l0_1.length : Int) x11_1 = some r) ∧ Aside0 (kq ≤ k) ∧ Aside0 (Kd.R (Kd.int .i64) 3 w' w.heap.size (fun _ => True) v3 x3_1) ∧ Aside0 (w'.heap[gb157]? = some (.cells #[.string a0_0, (.slice A0_1 l0_1.length c0_1)] 43 (0, 0))) ∧ Aside0 (Below w.heap.size w w'))
 case atStart => exact ⟨(([] : List Int)), (0), (by first | rfl | (simp; done) | (simp [*]; done)), H', ⟨Nat.le_refl _⟩, ⟨by first | exact Kd.R_nil _ _ _ _ _ | exact Kd.N_nil _ _ _ _ _ | exact Kd.V_nil _ _ _ _ _ | exact Kd.Q_nil _ _ _ _ _ | exact Kd.S_nil _ _ _ _ _⟩, ⟨by (with_reducible repeat (first | refine blk_drewN ?_ _ | refine blk_drew ?_ | refine blk_alloc ?_ _)); exact BK157.out⟩, ⟨by repeat (first | (with_reducible first | exact HB.out | apply below_alloc | apply pw_below_drewN | apply below_drew1 | refine below_set ?_ GE157.out) | exact HB.out)⟩⟩
 case round =>
  clear H'
  try clear c2
  try clear p2
  try clear hcz3_0
  try clear hcz3_1
  try clear hfz3_0
  try clear hfz3_1
  obtain ⟨x3_1, x11_1, rfl, HA, HK1, HO_3, BK157, HB⟩ := hrel
  cases gk with
  | zero => exact absurd HA.out (by simp [kind_Links.l0])
  | succ k1 =>
   have H := HA.out
   clear HA
   simp only [kind_Links.l0] at H
   by_cases c4 : x11_1 < (l0_1.length : Int)
   ·rw [if_pos c4] at H
    have c4b0 : decide (x11_1 < (l0_1.length : Int)) = true := decide_eq_true c4
    clear c4
    by_cases c5 : 0 ≤ x11_1
    ·rw [if_pos c5] at H
     have c5b0 : decide (0 ≤ x11_1) = true := decide_eq_true c5
     clear c5
     by_cases c6 : x11_1 < (l0_1.length : Int)
     ·rw [if_pos c6] at H
      have c6b0 : decide (x11_1 < (l0_1.length : Int)) = true := decide_eq_true c6
      clear c6
      replace H := Option.bind_eq_some_iff.mp H
      obtain ⟨⟨t160, t161⟩, A70, H⟩ := H
      replace H : (if t161 = true then (if x3_1.length < 17592186044416 then (kind_Links.l0 k1 (x3_1 ++ [x11_1]) l0_1 (l0_1.length : Int) (wrap64 (x11_1 + 1))) else (none)) else (kind_Links.l0 k1 x3_1 l0_1 (l0_1.length : Int) (wrap64 (x11_1 + 1)))) = some r := H
      have A7 := Aside0.mk A70
      clear A70
      by_cases c8 : t161 = true
      ·subst c8
       have H1 : (if x3_1.length < 17592186044416 then (kind_Links.l0 k1 (x3_1 ++ [x11_1]) l0_1 (l0_1.length : Int) (wrap64 (x11_1 + 1))) else (none)) = some r := by rw [if_pos rfl] at H; exact H
       clear H
       have H := H1
       clear H1
       by_cases c9 : x3_1.length < 17592186044416
       ·rw [if_pos c9] at H
        have LMc9 := Aside0.mk c9
        clear c9
        obtain ⟨y162, hy162⟩ : ∃ y_ : List Int, y_ = (x3_1 ++ [x11_1]) := ⟨_, rfl⟩
        replace H : (kind_Links.l0 k1 y162 l0_1 (l0_1.length : Int) (wrap64 (x11_1 + 1))) = some r := by first | (rw [hy162]; with_reducible exact H) | (have H2_ := (Option.bind_some _ _).symm.trans H; rw [hy162]; with_reducible exact H2_) | (have H2_ := (Option.bind_some _ _).symm.trans H; with_reducible exact H2_) | with_reducible exact H | (rw [hy162]; exact H) | exact H
        have Ny162 := Aside0.mk hy162
        clear hy162
        have H' := Aside0.mk H
        clear H
        have p158 : 0 ≤ (x11_1 : Int) := of_decide_eq_true (by first | (with_reducible assumption) | assumption)
        have q158 : x11_1 < (l0_1.length : Int) := of_decide_eq_true (by first | (with_reducible assumption) | assumption)
        obtain ⟨ad158, e158, hx158_0, hx158_1⟩ := at_T48 HR0_1.out x11_1 p158 q158
        cases e158
        replace hx158_0 := (HB.out.cell (World.block_lt_of_cell? w _ hx158_0)).trans hx158_0
        replace hx158_1 := (HB.out.cell (World.block_lt_of_cell? w _ hx158_1)).trans hx158_1
        replace p158 := eq_true p158
        replace q158 := eq_true q158
        go_wp2_with (first | ((with_reducible refine gate_dst (N := 5) rfl ?_); refine box_event ?hg (N := 5) ?hd (cs := #[.string (⟨#[]⟩ : ByteArray), .string (⟨#[]⟩ : ByteArray)]) (t := 48) ?hr ?_; (case hd => rfl); (case hg => rfl); (case hr => first | (go_simp; done) | (go_simp; rfl)); intro gb159 hg w10 hbox hb; have n0_ := Aside0.mk (Kd.R_below (by (with_reducible repeat (first | apply Kd.R_alloc | apply Kd.R_drewN | apply Kd.R_drew)); exact HO_3.out) hb); have n1_ := Aside0.mk (blk_below (g := gb157) (o := .cells #[.string a0_0, .slice (some ad158) l0_1.length c0_1] 43 (0, 0)) (by (with_reducible repeat (first | refine blk_drewN ?_ _ | refine blk_drew ?_ | refine blk_alloc ?_ _)); exact BK157.out) hb); have n2_ := Aside0.mk (below_step (by repeat (first | (with_reducible first | exact HB.out | apply below_alloc | apply pw_below_drewN | apply below_drew1 | refine below_set ?_ GE157.out) | exact HB.out)) hb); have n3_ := Aside0.mk (hbox); have n4_ := Aside0.mk ((by rw [hg]; exact (below_size (by repeat (first | (with_reducible first | exact HB.out | apply below_alloc | apply pw_below_drewN | apply below_drew1 | refine below_set ?_ GE157.out) | exact HB.out))) : w.heap.size ≤ gb159)); have n5_ := Aside0.mk ((by rw [hg]; exact (below_size (by repeat (first | (with_reducible first | exact HB.out | apply below_alloc | apply pw_below_drewN | apply below_drew1 | refine below_set ?_ GE157.out) | exact HB.out))) : w.heap.size ≤ gb159)); have n6_ := Aside0.mk ((by rw [hg]; exact Nat.ne_of_lt (blk_lt (g := gb157) (o := .cells #[.string a0_0, .slice (some ad158) l0_1.length c0_1] 43 (0, 0)) (by (with_reducible repeat (first | refine blk_drewN ?_ _ | refine blk_drew ?_ | refine blk_alloc ?_ _)); exact BK157.out)) : gb157 ≠ gb159)); have n7_ := Aside0.mk ((by rw [hg]; exact Nat.ne_of_gt (blk_lt (g := gb157) (o := .cells #[.string a0_0, .slice (some ad158) l0_1.length c0_1] 43 (0, 0)) (by (with_reducible repeat (first | refine blk_drewN ?_ _ | refine blk_drew ?_ | refine blk_alloc ?_ _)); exact BK157.out)) : gb159 ≠ gb157)); clear HO_3; clear BK157; clear HB; have HO_3 := n0_; have BK157 := n1_; have HB := n2_; have BK159 := n3_; have GW159 := n4_; have GE159 := n5_; have NB157_159 := n6_; have NB159_157 := n7_; clear n0_ n1_ n2_ n3_ n4_ n5_ n6_ n7_; clear hb hbox hg; have hnb11 := NB159_157.out; have hnc11 := NB157_159.out; have hcz12_0 : w10.cell? ⟨gb159, 0, none⟩ = some (.string (⟨#[]⟩ : ByteArray)) := (blk_cell BK159.out 0).trans rfl; have hcz12_1 : w10.cell? ⟨gb159, 1, none⟩ = some (.string (⟨#[]⟩ : ByteArray)) := (blk_cell BK159.out 1).trans rfl; have hfz12_0 := blk_frozen BK159.out 0; have hfz12_1 := blk_frozen BK159.out 1) | ((with_reducible refine gate_callee (f := 17) rfl ?_); refine goesL_ (some 19) rfl rfl Try.func17 (by kernel_rfl) rfl #[.string ((rd_T48 l0_1 x11_1).f1)] rfl (by (try simp only [List.map_toArray, List.map_cons, List.map_nil]); first | done | rfl | (simp only [List.length_drop, List.length_take]; rfl)) ?_; (with_reducible refine (kind_Elem.calls k1 ((rd_T48 l0_1 x11_1).f1) t160 true _ A7.out).mono ?_); rintro e w13 ⟨rfl, hb⟩; refine ⟨_, rfl, ?_⟩; have n0_ := Aside0.mk (Kd.R_below (by (with_reducible repeat (first | apply Kd.R_alloc | apply Kd.R_drewN | apply Kd.R_drew)); exact (Kd.R_mono (Kd.R_far (p := ⟨gb159, 1, none⟩) (Kd.R_far (p := ⟨gb159, 0, none⟩) (Kd.R_types HO_3.out BK159.out (by decide)) (fun _ hk => hk.2) (.string ((rd_T48 l0_1 x11_1).f0))) (fun _ hk => hk.2) (.string ((rd_T48 l0_1 x11_1).f1))) (fun _ h_ => h_.1))) hb); have n1_ := Aside0.mk (blk_below (g := gb157) (o := .cells #[.string a0_0, .slice (some ad158) l0_1.length c0_1] 43 (0, 0)) (by (with_reducible repeat (first | refine blk_drewN ?_ _ | refine blk_drew ?_ | refine blk_alloc ?_ _)); refine blk_far ?_ NB157_159.out _; (with_reducible repeat (first | refine blk_drewN ?_ _ | refine blk_drew ?_ | refine blk_alloc ?_ _)); refine blk_far ?_ NB157_159.out _; (with_reducible repeat (first | refine blk_drewN ?_ _ | refine blk_drew ?_ | refine blk_alloc ?_ _)); exact BK157.out) hb); have n2_ := Aside0.mk (blk_below (g := gb159) (o := .cells #[.string ((rd_T48 l0_1 x11_1).f0), .string ((rd_T48 l0_1 x11_1).f1)] 48 (0, 0)) (by (with_reducible repeat (first | refine blk_drewN ?_ _ | refine blk_drew ?_ | refine blk_alloc ?_ _)); refine blk_put (cs := #[.string ((rd_T48 l0_1 x11_1).f0), .string (⟨#[]⟩ : ByteArray)]) ?_ 1 _ rfl; (with_reducible repeat (first | refine blk_drewN ?_ _ | refine blk_drew ?_ | refine blk_alloc ?_ _)); refine blk_put (cs := #[.string (⟨#[]⟩ : ByteArray), .string (⟨#[]⟩ : ByteArray)]) ?_ 0 _ rfl; (with_reducible repeat (first | refine blk_drewN ?_ _ | refine blk_drew ?_ | refine blk_alloc ?_ _)); exact BK159.out) hb); have n3_ := Aside0.mk (below_step (by repeat (first | (with_reducible first | exact HB.out | apply below_alloc | apply pw_below_drewN | apply below_drew1 | refine below_set ?_ GE157.out | refine below_set ?_ GE159.out) | exact HB.out)) hb); clear HO_3; clear BK157; clear BK159; clear HB; have HO_3 := n0_; have BK157 := n1_; have BK159 := n2_; have HB := n3_; clear n0_ n1_ n2_ n3_; (try clear hb); (try clear hb2); (try clear hk); (try clear hi)) | ((with_reducible refine gate_builtin (b := .append) (xs := #[.tmp 23, .tmp 25]) rfl ?_); at_builtin; refine Kd.R_append (Kd.int .i64) (w0 := w) w.heap.size rfl (.tmp 23) (.tmp 25) 45 3 (.int .i64 0) 8 rfl Try.underlying45 info3 rfl (by decide) (by omega) u3 x3_1 x11_1 [.int .i64 x11_1] (fun _ => True) (fun _ => False) rfl rfl ?aP (fun _ hk => hk.elim) ?aF ?aO ?aB ?aS ?aL ?_; (case aP => exact rfl); (case aB => exact (by repeat (first | (with_reducible first | exact HB.out | apply below_alloc | apply pw_below_drewN | apply below_drew1 | refine below_set ?_ GE157.out | refine below_set ?_ GE159.out) | exact HB.out))); (case aF => exact (fun _ _ => trivial)); (case aO => exact (by (with_reducible repeat (first | apply Kd.R_alloc | apply Kd.R_drewN | apply Kd.R_drew)); exact HO_3.out)); (case aS => exact (below_size (by repeat (first | (with_reducible first | exact HB.out | apply below_alloc | apply pw_below_drewN | apply below_drew1 | refine below_set ?_ GE157.out | refine below_set ?_ GE159.out) | exact HB.out)))); (case aL => have := LMc9.out; omega); intro v163 w14 ho hb hg hat; rw [← Ny162.out] at ho; have n0_ := Aside0.mk (blk_grown (g := gb157) (o := .cells #[.string a0_0, .slice (some ad158) l0_1.length c0_1] 43 (0, 0)) (by (with_reducible repeat (first | refine blk_drewN ?_ _ | refine blk_drew ?_ | refine blk_alloc ?_ _)); exact BK157.out) hg (Kd.R_ne HO_3.out BK157.out (by decide))); have n1_ := Aside0.mk (blk_grown (g := gb159) (o := .cells #[.string ((rd_T48 l0_1 x11_1).f0), .string ((rd_T48 l0_1 x11_1).f1)] 48 (0, 0)) (by (with_reducible repeat (first | refine blk_drewN ?_ _ | refine blk_drew ?_ | refine blk_alloc ?_ _)); exact BK159.out) hg (Kd.R_ne HO_3.out BK159.out (by decide))); have n2_ := Aside0.mk (hb); have n3_ := Aside0.mk (ho); clear BK157; clear BK159; clear HB; clear HO_3; have BK157 := n0_; have BK159 := n1_; have HB := n2_; have HO164 := n3_; clear n0_ n1_ n2_ n3_; clear ho hb hg hat))
        go_roundg k1
        case measure => have := HK1.out; omega
        case rel => exact ⟨(y162), (wrap64 (x11_1 + 1)), (by first | rfl | (simp; done) | (simp [*]; done)), H', ⟨by have := HK1.out; omega⟩, ⟨by (with_reducible repeat (first | apply Kd.R_alloc | apply Kd.R_drewN | apply Kd.R_drew)); exact HO164.out⟩, ⟨by (with_reducible repeat (first | refine blk_drewN ?_ _ | refine blk_drew ?_ | refine blk_alloc ?_ _)); exact BK157.out⟩, ⟨by repeat (first | (with_reducible first | exact HB.out | apply below_alloc | apply pw_below_drewN | apply below_drew1 | refine below_set ?_ GE157.out | refine below_set ?_ GE159.out) | exact HB.out)⟩⟩
       ·rw [if_neg c9] at H
        exact absurd H (by simp)
      ·replace c8 := Bool.eq_false_iff.mpr c8
       subst c8
       have H1 : (kind_Links.l0 k1 x3_1 l0_1 (l0_1.length : Int) (wrap64 (x11_1 + 1))) = some r := by rw [if_neg (show ¬ (false = true) by decide)] at H; exact H
       clear H
       have H := H1
       clear H1
       have H' := Aside0.mk H
       clear H
       have p158 : 0 ≤ (x11_1 : Int) := of_decide_eq_true (by first | (with_reducible assumption) | assumption)
       have q158 : x11_1 < (l0_1.length : Int) := of_decide_eq_true (by first | (with_reducible assumption) | assumption)
       obtain ⟨ad158, e158, hx158_0, hx158_1⟩ := at_T48 HR0_1.out x11_1 p158 q158
       cases e158
       replace hx158_0 := (HB.out.cell (World.block_lt_of_cell? w _ hx158_0)).trans hx158_0
       replace hx158_1 := (HB.out.cell (World.block_lt_of_cell? w _ hx158_1)).trans hx158_1
       replace p158 := eq_true p158
       replace q158 := eq_true q158
       go_wp2_with (first | ((with_reducible refine gate_dst (N := 5) rfl ?_); refine box_event ?hg (N := 5) ?hd (cs := #[.string (⟨#[]⟩ : ByteArray), .string (⟨#[]⟩ : ByteArray)]) (t := 48) ?hr ?_; (case hd => rfl); (case hg => rfl); (case hr => first | (go_simp; done) | (go_simp; rfl)); intro gb159 hg w15 hbox hb; have n0_ := Aside0.mk (Kd.R_below (by (with_reducible repeat (first | apply Kd.R_alloc | apply Kd.R_drewN | apply Kd.R_drew)); exact HO_3.out) hb); have n1_ := Aside0.mk (blk_below (g := gb157) (o := .cells #[.string a0_0, .slice (some ad158) l0_1.length c0_1] 43 (0, 0)) (by (with_reducible repeat (first | refine blk_drewN ?_ _ | refine blk_drew ?_ | refine blk_alloc ?_ _)); exact BK157.out) hb); have n2_ := Aside0.mk (below_step (by repeat (first | (with_reducible first | exact HB.out | apply below_alloc | apply pw_below_drewN | apply below_drew1 | refine below_set ?_ GE157.out) | exact HB.out)) hb); have n3_ := Aside0.mk (hbox); have n4_ := Aside0.mk ((by rw [hg]; exact (below_size (by repeat (first | (with_reducible first | exact HB.out | apply below_alloc | apply pw_below_drewN | apply below_drew1 | refine below_set ?_ GE157.out) | exact HB.out))) : w.heap.size ≤ gb159)); have n5_ := Aside0.mk ((by rw [hg]; exact (below_size (by repeat (first | (with_reducible first | exact HB.out | apply below_alloc | apply pw_below_drewN | apply below_drew1 | refine below_set ?_ GE157.out) | exact HB.out))) : w.heap.size ≤ gb159)); have n6_ := Aside0.mk ((by rw [hg]; exact Nat.ne_of_lt (blk_lt (g := gb157) (o := .cells #[.string a0_0, .slice (some ad158) l0_1.length c0_1] 43 (0, 0)) (by (with_reducible repeat (first | refine blk_drewN ?_ _ | refine blk_drew ?_ | refine blk_alloc ?_ _)); exact BK157.out)) : gb157 ≠ gb159)); have n7_ := Aside0.mk ((by rw [hg]; exact Nat.ne_of_gt (blk_lt (g := gb157) (o := .cells #[.string a0_0, .slice (some ad158) l0_1.length c0_1] 43 (0, 0)) (by (with_reducible repeat (first | refine blk_drewN ?_ _ | refine blk_drew ?_ | refine blk_alloc ?_ _)); exact BK157.out)) : gb159 ≠ gb157)); clear HO_3; clear BK157; clear HB; have HO_3 := n0_; have BK157 := n1_; have HB := n2_; have BK159 := n3_; have GW159 := n4_; have GE159 := n5_; have NB157_159 := n6_; have NB159_157 := n7_; clear n0_ n1_ n2_ n3_ n4_ n5_ n6_ n7_; clear hb hbox hg; have hnb16 := NB159_157.out; have hnc16 := NB157_159.out; have hcz17_0 : w15.cell? ⟨gb159, 0, none⟩ = some (.string (⟨#[]⟩ : ByteArray)) := (blk_cell BK159.out 0).trans rfl; have hcz17_1 : w15.cell? ⟨gb159, 1, none⟩ = some (.string (⟨#[]⟩ : ByteArray)) := (blk_cell BK159.out 1).trans rfl; have hfz17_0 := blk_frozen BK159.out 0; have hfz17_1 := blk_frozen BK159.out 1) | ((with_reducible refine gate_callee (f := 17) rfl ?_); refine goesL_ (some 19) rfl rfl Try.func17 (by kernel_rfl) rfl #[.string ((rd_T48 l0_1 x11_1).f1)] rfl (by (try simp only [List.map_toArray, List.map_cons, List.map_nil]); first | done | rfl | (simp only [List.length_drop, List.length_take]; rfl)) ?_; (with_reducible refine (kind_Elem.calls k1 ((rd_T48 l0_1 x11_1).f1) t160 false _ A7.out).mono ?_); rintro e w18 ⟨rfl, hb⟩; refine ⟨_, rfl, ?_⟩; have n0_ := Aside0.mk (Kd.R_below (by (with_reducible repeat (first | apply Kd.R_alloc | apply Kd.R_drewN | apply Kd.R_drew)); exact (Kd.R_mono (Kd.R_far (p := ⟨gb159, 1, none⟩) (Kd.R_far (p := ⟨gb159, 0, none⟩) (Kd.R_types HO_3.out BK159.out (by decide)) (fun _ hk => hk.2) (.string ((rd_T48 l0_1 x11_1).f0))) (fun _ hk => hk.2) (.string ((rd_T48 l0_1 x11_1).f1))) (fun _ h_ => h_.1))) hb); have n1_ := Aside0.mk (blk_below (g := gb157) (o := .cells #[.string a0_0, .slice (some ad158) l0_1.length c0_1] 43 (0, 0)) (by (with_reducible repeat (first | refine blk_drewN ?_ _ | refine blk_drew ?_ | refine blk_alloc ?_ _)); refine blk_far ?_ NB157_159.out _; (with_reducible repeat (first | refine blk_drewN ?_ _ | refine blk_drew ?_ | refine blk_alloc ?_ _)); refine blk_far ?_ NB157_159.out _; (with_reducible repeat (first | refine blk_drewN ?_ _ | refine blk_drew ?_ | refine blk_alloc ?_ _)); exact BK157.out) hb); have n2_ := Aside0.mk (blk_below (g := gb159) (o := .cells #[.string ((rd_T48 l0_1 x11_1).f0), .string ((rd_T48 l0_1 x11_1).f1)] 48 (0, 0)) (by (with_reducible repeat (first | refine blk_drewN ?_ _ | refine blk_drew ?_ | refine blk_alloc ?_ _)); refine blk_put (cs := #[.string ((rd_T48 l0_1 x11_1).f0), .string (⟨#[]⟩ : ByteArray)]) ?_ 1 _ rfl; (with_reducible repeat (first | refine blk_drewN ?_ _ | refine blk_drew ?_ | refine blk_alloc ?_ _)); refine blk_put (cs := #[.string (⟨#[]⟩ : ByteArray), .string (⟨#[]⟩ : ByteArray)]) ?_ 0 _ rfl; (with_reducible repeat (first | refine blk_drewN ?_ _ | refine blk_drew ?_ | refine blk_alloc ?_ _)); exact BK159.out) hb); have n3_ := Aside0.mk (below_step (by repeat (first | (with_reducible first | exact HB.out | apply below_alloc | apply pw_below_drewN | apply below_drew1 | refine below_set ?_ GE157.out | refine below_set ?_ GE159.out) | exact HB.out)) hb); clear HO_3; clear BK157; clear BK159; clear HB; have HO_3 := n0_; have BK157 := n1_; have BK159 := n2_; have HB := n3_; clear n0_ n1_ n2_ n3_; (try clear hb); (try clear hb2); (try clear hk); (try clear hi)))
       go_roundg k1
       case measure => have := HK1.out; omega
       case rel => exact ⟨(x3_1), (wrap64 (x11_1 + 1)), (by first | rfl | (simp; done) | (simp [*]; done)), H', ⟨by have := HK1.out; omega⟩, ⟨by (with_reducible repeat (first | apply Kd.R_alloc | apply Kd.R_drewN | apply Kd.R_drew)); exact HO_3.out⟩, ⟨by (with_reducible repeat (first | refine blk_drewN ?_ _ | refine blk_drew ?_ | refine blk_alloc ?_ _)); exact BK157.out⟩, ⟨by repeat (first | (with_reducible first | exact HB.out | apply below_alloc | apply pw_below_drewN | apply below_drew1 | refine below_set ?_ GE157.out | refine below_set ?_ GE159.out) | exact HB.out)⟩⟩
     ·rw [if_neg c6] at H
      exact absurd H (by simp)
    ·rw [if_neg c5] at H
     exact absurd H (by simp)
   ·rw [if_neg c4] at H
    have c4b0 : decide (x11_1 < (l0_1.length : Int)) = false := decide_eq_false c4
    clear c4
    obtain rfl := Option.some.inj H
    go_wp2
    go_ret
    exact ⟨_, by first | rfl | (simp [errW_none, errW_some] <;> rfl) | (simp [*, errW_none, errW_some] <;> rfl), by (with_reducible repeat (first | apply Kd.R_alloc | apply Kd.R_drewN | apply Kd.R_drew)); exact HO_3.out, by repeat (first | (with_reducible first | exact HB.out | apply below_alloc | apply pw_below_drewN | apply below_drew1 | refine below_set ?_ GE157.out) | exact HB.out)⟩
end Go.Proofs.Ytonmlncejikbiaa.Q
-- (laid by the kit's lay-shelf and lay-plain at this seat's dump)
/- The library's contracts at this program. -/
namespace Go.Proofs
open Go.Shelf
def Try.lays210_ren : Go.Shelf.Ren := ⟨fun | 210 => 98 | 206 => 105 | n => n, fun | 9 => 9 | 4 => 4 | 3 => 3 | n => n, fun | n => n⟩
theorem Try.lays210 : Go.Proofs.Lays.n210 Try.prog Try.lays210_ren := {
 mixed := by kernel_rfl
 f206 := Try.func105.trans (congrArg some (by kernel_rfl))
 f210 := Try.func98.trans (congrArg some (by kernel_rfl))
 t3 := Try.underlying3
 a3 := Try.isAgg3
 z3 := Try.sizeOf3
 v3 := Try.zeroValue3
 t4 := Try.underlying4
 a4 := Try.isAgg4
 z4 := Try.sizeOf4
 v4 := Try.zeroValue4
 t9 := Try.underlying9
 a9 := Try.isAgg9
 z9 := Try.sizeOf9
 v9 := Try.zeroValue9 }
open Go.RowKit in
theorem Try.stringslite_CutPrefix (s p : ByteArray) (w : World) :
  Calls Try.prog 98 #[.string s, .string p] w fun e w' => e = .returned (.tuple #[.string ⟨(Lib.trimPrefix s.data.toList p.data.toList).toArray⟩, .bool (Lib.hasPrefix s.data.toList p.data.toList)]) ∧ w' = w := Any.stringslite_CutPrefix Try.lays210 s p w
def Try.lays103_ren : Go.Shelf.Ren := ⟨fun | 103 => 71 | 210 => 98 | 206 => 105 | n => n, fun | 9 => 9 | 4 => 4 | 24 => 30 | 3 => 3 | n => n, fun | n => n⟩
theorem Try.lays103 : Go.Proofs.Lays.n103 Try.prog Try.lays103_ren := {
 mixed := by kernel_rfl
 f103 := Try.func71.trans (congrArg some (by kernel_rfl))
 f206 := Try.func105.trans (congrArg some (by kernel_rfl))
 f210 := Try.func98.trans (congrArg some (by kernel_rfl))
 t3 := Try.underlying3
 a3 := Try.isAgg3
 z3 := Try.sizeOf3
 v3 := Try.zeroValue3
 t4 := Try.underlying4
 a4 := Try.isAgg4
 z4 := Try.sizeOf4
 v4 := Try.zeroValue4
 t9 := Try.underlying9
 a9 := Try.isAgg9
 z9 := Try.sizeOf9
 v9 := Try.zeroValue9
 t24 := Try.underlying30
 a24 := Try.isAgg30
 z24 := Try.sizeOf30
 v24 := Try.zeroValue30 }
open Go.RowKit in
theorem Try.strings_CutPrefix (s p : ByteArray) (w : World) :
  Calls Try.prog 71 #[.string s, .string p] w fun e w' => e = .returned (.tuple #[.string ⟨(Lib.trimPrefix s.data.toList p.data.toList).toArray⟩, .bool (Lib.hasPrefix s.data.toList p.data.toList)]) ∧ w' = w := Any.strings_CutPrefix Try.lays103 s p w
def Try.lays189_ren : Go.Shelf.Ren := ⟨fun | 189 => 84 | 125 => 102 | 257 => 101 | 128 => 121 | 129 => 122 | 294 => 112 | 295 => 113 | 296 => 114 | 297 => 115 | 298 => 116 | 299 => 117 | 216 => 118 | 300 => 119 | 301 => 120 | 328 => 124 | 329 => 125 | 330 => 126 | 331 => 127 | 332 => 128 | 215 => 129 | 343 => 130 | n => n, fun | 28 => 45 | 3 => 3 | 46 => 134 | 0 => 0 | 51 => 149 | 53 => 151 | 4 => 4 | 183 => 142 | 182 => 141 | 131 => 32 | 5 => 5 | 9 => 9 | 218 => 153 | 222 => 157 | 228 => 159 | 229 => 28 | n => n, fun | n => n⟩
theorem Try.lays189 : Go.Proofs.Lays.n189 Try.prog Try.lays189_ren := {
 mixed := by kernel_rfl
 f125 := Try.func102.trans (congrArg some (by kernel_rfl))
 f128 := Try.func121.trans (congrArg some (by kernel_rfl))
 f129 := Try.func122.trans (congrArg some (by kernel_rfl))
 f189 := Try.func84.trans (congrArg some (by kernel_rfl))
 f215 := Try.func129.trans (congrArg some (by kernel_rfl))
 f216 := Try.func118.trans (congrArg some (by kernel_rfl))
 f257 := Try.func101.trans (congrArg some (by kernel_rfl))
 f294 := Try.func112.trans (congrArg some (by kernel_rfl))
 f295 := Try.func113.trans (congrArg some (by kernel_rfl))
 f296 := Try.func114.trans (congrArg some (by kernel_rfl))
 f297 := Try.func115.trans (congrArg some (by kernel_rfl))
 f298 := Try.func116.trans (congrArg some (by kernel_rfl))
 f299 := Try.func117.trans (congrArg some (by kernel_rfl))
 f300 := Try.func119.trans (congrArg some (by kernel_rfl))
 f301 := Try.func120.trans (congrArg some (by kernel_rfl))
 f328 := Try.func124.trans (congrArg some (by kernel_rfl))
 f329 := Try.func125.trans (congrArg some (by kernel_rfl))
 f330 := Try.func126.trans (congrArg some (by kernel_rfl))
 f331 := Try.func127.trans (congrArg some (by kernel_rfl))
 f332 := Try.func128.trans (congrArg some (by kernel_rfl))
 f343 := Try.func130.trans (congrArg some (by kernel_rfl))
 t0 := Try.underlying0
 a0 := Try.isAgg0
 z0 := Try.sizeOf0
 v0 := Try.zeroValue0
 t3 := Try.underlying3
 a3 := Try.isAgg3
 z3 := Try.sizeOf3
 v3 := Try.zeroValue3
 t4 := Try.underlying4
 a4 := Try.isAgg4
 z4 := Try.sizeOf4
 v4 := Try.zeroValue4
 t5 := Try.underlying5
 a5 := Try.isAgg5
 z5 := Try.sizeOf5
 v5 := Try.zeroValue5
 t9 := Try.underlying9
 a9 := Try.isAgg9
 z9 := Try.sizeOf9
 v9 := Try.zeroValue9
 t28 := Try.underlying45
 a28 := Try.isAgg45
 z28 := Try.sizeOf45
 v28 := Try.zeroValue45
 t46 := Try.underlying134
 a46 := Try.isAgg134
 z46 := Try.sizeOf134
 v46 := Try.zeroValue134
 t51 := Try.underlying149
 a51 := Try.isAgg149
 z51 := Try.sizeOf149
 v51 := Try.zeroValue149
 t53 := Try.underlying151
 a53 := Try.isAgg151
 z53 := Try.sizeOf151
 v53 := Try.zeroValue151
 t131 := Try.underlying32
 a131 := Try.isAgg32
 z131 := Try.sizeOf32
 v131 := Try.zeroValue32
 t182 := Try.underlying141
 a182 := Try.isAgg141
 z182 := Try.sizeOf141
 v182 := Try.zeroValue141
 t183 := Try.underlying142
 a183 := Try.isAgg142
 z183 := Try.sizeOf142
 v183 := Try.zeroValue142
 t218 := Try.underlying153
 a218 := Try.isAgg153
 z218 := Try.sizeOf153
 v218 := Try.zeroValue153
 t222 := Try.underlying157
 a222 := Try.isAgg157
 z222 := Try.sizeOf157
 v222 := Try.zeroValue157
 t228 := Try.underlying159
 a228 := Try.isAgg159
 z228 := Try.sizeOf159
 v228 := Try.zeroValue159
 t229 := Try.underlying28
 a229 := Try.isAgg28
 z229 := Try.sizeOf28
 v229 := Try.zeroValue28 }
open Go.Sort Go.RowKit in
theorem Try.slices_Sort_int (blk off cap : Nat) (zs : List Int) (w : World) (hH : Holds (Value.int .i64) w blk off zs.toArray) (hblk : blk < w.heap.size) (hsz : zs.length < 4611686018427387904) :
  Calls Try.prog 84 #[.slice (some ⟨blk, off, none⟩) zs.length cap] w fun e w' =>
   e = .returned (.tuple #[]) ∧ ∃ n os, w' = grow (putRow (Value.int .i64) (Sort.ahead w n) blk off (zs.mergeSort fun x y => decide (x ≤ y)).toArray) os := Any.slices_Sort_int Try.lays189 blk off cap zs w hH hblk hsz
def Try.lays206_ren : Go.Shelf.Ren := ⟨fun | 206 => 105 | n => n, fun | 9 => 9 | 4 => 4 | 3 => 3 | n => n, fun | n => n⟩
theorem Try.lays206 : Go.Proofs.Lays.n206 Try.prog Try.lays206_ren := {
 mixed := by kernel_rfl
 f206 := Try.func105.trans (congrArg some (by kernel_rfl))
 t3 := Try.underlying3
 a3 := Try.isAgg3
 z3 := Try.sizeOf3
 v3 := Try.zeroValue3
 t4 := Try.underlying4
 a4 := Try.isAgg4
 z4 := Try.sizeOf4
 v4 := Try.zeroValue4
 t9 := Try.underlying9
 a9 := Try.isAgg9
 z9 := Try.sizeOf9
 v9 := Try.zeroValue9 }
open Go.RowKit Go.Lib in
theorem Try.stringslite_HasPrefix (s p : ByteArray) (w : World) :
  Calls Try.prog 105 #[.string s, .string p] w fun e w' => e = .returned (.bool (Lib.hasPrefix s.data.toList p.data.toList)) ∧ w' = w := Any.stringslite_HasPrefix Try.lays206 s p w
def Try.laysNm220_ren : Go.Shelf.Ren := ⟨fun | 20 => 85 | n => n, fun | 22 => 45 | 3 => 3 | 4 => 4 | 0 => 0 | n => n, fun | n => n⟩
theorem Try.laysNm220 : Go.Proofs.Lays2.n20 Try.prog Try.laysNm220_ren := {
 mixed := by kernel_rfl
 f20 := Try.func85.trans (congrArg some (by kernel_rfl))
 t0 := Try.underlying0
 a0 := Try.isAgg0
 z0 := Try.sizeOf0
 v0 := Try.zeroValue0
 t3 := Try.underlying3
 a3 := Try.isAgg3
 z3 := Try.sizeOf3
 v3 := Try.zeroValue3
 t4 := Try.underlying4
 a4 := Try.isAgg4
 z4 := Try.sizeOf4
 v4 := Try.zeroValue4
 t22 := Try.underlying45
 a22 := Try.isAgg45
 z22 := Try.sizeOf45
 v22 := Try.zeroValue45
 i3 := by kernel_rfl }
open Go.RowKit Go.Lib Go.Sort in
theorem Try.slices_Compact_int (blk off cap : Nat) (zs : List Int) (w : World) (hH : Holds (Value.int .i64) w blk off zs.toArray) (hsz : zs.length ≤ 9223372036854775807) (hcap : zs.length ≤ cap) :
  Calls Try.prog 85 #[.slice (some ⟨blk, off, none⟩) zs.length cap] w fun e w' => e = .returned (.slice (some ⟨blk, off, none⟩) (Lib.compact zs).length cap) ∧ ∃ q, w' = putRow (Value.int .i64) (Sort.ahead w q) blk off (Lib.compact zs ++ List.replicate (zs.length - (Lib.compact zs).length) 0).toArray := Any.slices_Compact_int Try.laysNm220 blk off cap zs w hH hsz hcap
open Go.RowKit Go.Lib Go.Sort in
theorem Try.slices_Compact_int_empty (a : Option Addr) (cap : Nat) (w : World) :
  Calls Try.prog 85 #[.slice a 0 cap] w fun e w' => e = .returned (.slice a 0 cap) ∧ w' = w := Any.slices_Compact_int_empty Try.laysNm220 a cap w
open Go.RowKit Go.Sort in
theorem Try.slices_Sort_int_none (p : Option Addr) (cap : Nat) (w : World) :
  Calls Try.prog 84 #[.slice p 0 cap] w fun e w' => e = .returned (.tuple #[]) ∧ w' = w := Any.slices_Sort_int_none Try.lays189 p cap w
end Go.Proofs
/- Rows of ints of one's own under the library's Sort, Compact: the shelf's contracts in the words of the printed walks. -/
namespace Go.Proofs.Ytonmlncejikbiaa.Q
open Go.RowKit Go.Proofs.YtonmlncejikbiaaW.PrintWords Go.Proofs.YtonmlncejikbiaaW.PrintLast Go.Proofs.YtonmlncejikbiaaW.PrintMore
set_option linter.unusedVariables false
set_option linter.unusedSimpArgs false
open Go.Sort Go.Shelf Go.Lib
section
variable {e base : Nat} {ok : Nat → Prop} {w : World} {v : Value} {xs : List Int}
theorem grow_none (W : World) : grow W #[] = W := by simp [grow]
theorem int_row (h : (Kd.int .i64).R e w base ok v xs) : (v = .slice none 0 0 ∧ xs = []) ∨ ∃ g c, v = .slice (some ⟨g, 0, none⟩) xs.length c ∧ xs.length ≤ c ∧ c ≤ maxLen ∧ Holds (Value.int .i64) w g 0 xs.toArray ∧ g < w.heap.size ∧ base ≤ g ∧
  ∀ (q : Nat) (os : Array Obj) (ts : List Int), ts.length = xs.length → (Kd.int .i64).R e (grow (putRow (Value.int .i64) (Sort.ahead w q) g 0 ts.toArray) os) base ok (.slice (some ⟨g, 0, none⟩) xs.length c) ts ∧ w.grownBy (grow (putRow (Value.int .i64) (Sort.ahead w q) g 0 ts.toArray) os) (some g) := by
 have ho := Kd.own_of_R h
 rcases ho.2 with ⟨h1, h2⟩ | ⟨g, cap, cur, rfl, hbase, hb, h1, h2, h3, h4⟩
 ·left
  have hl := (Kd.R_own h).choose_spec.1
  refine ⟨h1, ?_⟩
  rw [h1] at h
  obtain ⟨hn, _⟩ := Kd.R_reads' h
  exact List.eq_nil_of_length_eq_zero hn.symm
 ·right
  refine ⟨g, cap, rfl, h1, h2, holds_of_blockI hb (by simpa [encs] using h4), (Array.getElem?_eq_some_iff.1 hb).1, hbase, fun q os ts hl => ⟨?_, grownBy_sortedI _⟩⟩
  have hs := ownsRow_sortedI (n := q) (os := os) (ts := ts) (ss := xs) hl hbase hb h1 h2 h3
  exact Kd.R_of_own (by rw [hl]; exact hs) (fun k hk => h.1 k hk)
end
theorem grown_self (w : World) (row : Option Nat) : w.grownBy w row := ⟨rfl, rfl, rfl, Nat.le_refl _, fun _ _ _ => rfl⟩
theorem compact_le (xs : List Int) : (Lib.compact xs).length ≤ xs.length := by
 unfold Lib.compact Lib.compactUpTo
 rw [List.length_map]
 refine Nat.le_trans (List.length_filter_le _ _) ?_
 simp
theorem sort_R {base : Nat} {ok : Nat → Prop} {w : World} {v : Value} {xs : List Int} (h : (Kd.int .i64).R 3 w base ok v xs) (hsz : xs.length < 4611686018427387904) :
  Calls Try.prog 84 #[v] w fun e w' => e = .returned (.tuple #[]) ∧ (Kd.int .i64).R 3 w' base ok v (xs.mergeSort fun x y => decide (x ≤ y)) ∧ w.grownBy w' v.ownBlock := by
 rcases int_row h with ⟨rfl, rfl⟩ | ⟨g, c, rfl, h1, h2, h3, h4, h5, h6⟩
 ·refine (Try.slices_Sort_int_none none 0 w).mono ?_
  rintro e w' ⟨rfl, rfl⟩
  exact ⟨rfl, by rw [List.mergeSort_nil]; exact Kd.R_nil _ _ _ _ _, grown_self _ _⟩
 ·refine (Try.slices_Sort_int g 0 c xs w h3 h4 hsz).mono ?_
  rintro e w' ⟨rfl, n, os, rfl⟩
  obtain ⟨q1, q2⟩ := h6 n os (xs.mergeSort fun x y => decide (x ≤ y)) (List.length_mergeSort _)
  exact ⟨rfl, q1, q2⟩
theorem compact_R {base : Nat} {ok : Nat → Prop} {w : World} {v : Value} {xs : List Int} (h : (Kd.int .i64).R 3 w base ok v xs) :
  Calls Try.prog 85 #[v] w fun e w' => ∃ v', e = .returned v' ∧ (Kd.int .i64).R 3 w' base ok v' (Lib.compact xs) ∧ w.grownBy w' v.ownBlock ∧ v'.ownBlock = v.ownBlock := by
 rcases int_row h with ⟨rfl, rfl⟩ | ⟨g, c, rfl, h1, h2, h3, h4, h5, h6⟩
 ·refine (Try.slices_Compact_int_empty none 0 w).mono ?_
  rintro e w' ⟨rfl, rfl⟩
  exact ⟨_, rfl, Kd.R_nil _ _ _ _ _, grown_self _ _, rfl⟩
 ·refine (Try.slices_Compact_int g 0 c xs w h3 (by unfold maxLen at h2; omega) h1).mono ?_
  rintro e w' ⟨rfl, q, rfl⟩
  have hc := compact_le xs
  obtain ⟨q1, q2⟩ := h6 q #[] (Lib.compact xs ++ List.replicate (xs.length - (Lib.compact xs).length) 0) (by simp; omega)
  rw [grow_none] at q1 q2
  have q3 := Kd.R_take (m := (Lib.compact xs).length) q1 (by simp)
  rw [List.take_left'  rfl] at q3
  exact ⟨_, rfl, q3, q2, rfl⟩
end Go.Proofs.Ytonmlncejikbiaa.Q
/- A heap's Of and Near: by hand; the drawn region is written by wip/tool/genA.py. -/
namespace Go.Proofs.Ytonmlncejikbiaa.Q
open Go.RowKit Go.Proofs.YtonmlncejikbiaaW.PrintWords Go.Proofs.YtonmlncejikbiaaW.PrintLast Go.Proofs.YtonmlncejikbiaaW.PrintMore
set_option linter.unusedVariables false
set_option linter.unusedSimpArgs false
/-- What objects are, by structs. -/
structure OkL (S : List S43) (L : List (Int × List Int)) : Prop where
 len : L.length ≤ 131072
 all : ∀ x ∈ L, 0 ≤ x.1 ∧ x.1 < (S.length : Int) ∧ x.2.length = (rd_T43 S x.1).f1.length ∧ ∀ n ∈ x.2, -9223372036854775808 ≤ n ∧ n ≤ 9223372036854775807
theorem OkL.at {S : List S43} {L : List (Int × List Int)} (h : OkL S L) {i : Int} (h0 : 0 ≤ i) (h1 : i < (L.length : Int)) : rdO L i ∈ L := by
 unfold rdO
 rw [getD_at _ _ (by omega)]
 exact List.getElem_mem _
def ofO (S : List S43) (L : List (Int × List Int)) (obj : Int) : ByteArray := if isO L obj = true then (rd_T43 S (rdO L (obj - 1)).1).f0 else ⟨#[]⟩
def sortC (l : List Int) : List Int := Go.Lib.compact (l.mergeSort fun x y => decide (x ≤ y))
/-- What the links of an object hold, of what is there. -/
def nearTo (L : List (Int × List Int)) (F ks : List Int) : List Int := (ks.map fun k => rd F k).filter (isO L)
theorem nearTo_len (L : List (Int × List Int)) (F ks : List Int) : (nearTo L F ks).length ≤ ks.length := by
 unfold nearTo
 have := List.length_filter_le (isO L) (ks.map fun k => rd F k)
 rwa [List.length_map] at this
theorem infoIn : (Try.prog.info? 3).map (fun i => (i.zero, i.size, i.bytes)) = some (some (.int .i64 0), (Kd.int .i64).sz, 8) := by kernel_rfl
theorem take_nextI (l : List Int) (z : Int) {i : Nat} (hi : i < l.length) : l.take (i + 1) = l.take i ++ [l.getD i z] := by
 rw [List.take_succ_eq_append_getElem hi, getD_at l z hi]
def heap_Near.T5 : Bool × List (List Nat × List Nat) := (true, [([], []), ([0], [0]), ([1], [1]), ([2], [2]), ([], []), ([4], [4]), ([3, 5], [3, 5]), ([6], [6]), ([7], [7]), ([8], [8]), ([], [])])
def heap_Near.B5 : List Nat := [0, 1, 3, 7, 0, 16, 63, 127, 255, 511, 0]
theorem heap_Near.tab5 : rtab .any (opsOf Try.f37 5) = heap_Near.T5 := by kernel_rfl
theorem heap_Near.bits5 : waitsOk heap_Near.T5.2 heap_Near.B5 = true := by kernel_rfl
section
variable {base g : Nat} {w : World} {sv lv : Value} {S : List S43} {L : List (Int × List Int)} {sok lok : Nat → Prop}
set_option maxRecDepth 100000 in
set_option maxHeartbeats 2000000 in
theorem heap_Of.nil (obj : Int) (w : World) : Calls Try.prog 40 #[.pointer none, .int .i64 obj] w fun e w' => e = .returned (.string ⟨#[]⟩) ∧ Below w.heap.size w w' := by
 have HC := Aside0.mk (heap_is.nil obj w)
 go_enter Try.func40, Try.ntmps40
 go_wp2_with fail
 refine HC.out.mono ?_
 rintro e w1 ⟨rfl, hb⟩
 have HB := Aside0.mk hb; clear hb
 go_wp2
 go_ret
 exact ⟨rfl, HB.out⟩
set_option maxRecDepth 100000 in
set_option maxHeartbeats 4000000 in
theorem heap_Of.calls (obj : Int) (h : HP w base g sv lv S L sok lok) (hk : OkL S L) :
  Calls Try.prog 40 #[ptr g, .int .i64 obj] w fun e w' => e = .returned (.string (ofO S L obj)) ∧ Below w.heap.size w w' := by
 have hc := heap_is.calls obj h
 unfold ofO
 cases ho : isO L obj with
 | false =>
  rw [ho] at hc
  rw [if_neg (by decide)]
  have HC := Aside0.mk hc
  clear hc h ho
  go_enter Try.func40, Try.ntmps40
  go_wp2_with fail
  refine HC.out.mono ?_
  rintro e w1 ⟨rfl, hb⟩
  have HB := Aside0.mk hb; clear hb
  go_wp2
  go_ret
  exact ⟨rfl, HB.out⟩
 | true =>
  rw [ho] at hc
  rw [if_pos rfl]
  have ho' : 1 ≤ obj ∧ obj ≤ (L.length : Int) := of_decide_eq_true ho
  obtain ⟨n, rfl⟩ : ∃ n : Nat, obj = (n : Int) + 1 := ⟨(obj - 1).toNat, by omega⟩
  have e1 : (n : Int) + 1 - 1 = n := by omega
  rw [e1]
  obtain ⟨x, hx⟩ : ∃ x, x = rdO L (n : Int) := ⟨_, rfl⟩
  obtain ⟨o0, o1, _, _⟩ := hk.all _ (hk.at (i := (n : Int)) (by omega) (by omega))
  rw [← hx] at o0 o1 ⊢
  obtain ⟨m, hm⟩ : ∃ m : Nat, x.1 = m := ⟨x.1.toNat, by omega⟩
  rw [hm] at o1 ⊢
  obtain ⟨y, hy⟩ : ∃ y, y = rd_T43 S (m : Int) := ⟨_, rfl⟩
  rw [← hy]
  have H := Aside0.mk h; have HC := Aside0.mk hc; have HX := Aside0.mk hx; have HY := Aside0.mk hy; have HM := Aside0.mk hm
  clear h hc hx hy hm hk ho o0
  go_enter Try.func40, Try.ntmps40
  go_wp2_with fail
  refine HC.out.mono ?_
  rintro e w1 ⟨rfl, hb⟩
  have HB := Aside0.mk hb
  have h1 := H.out.below hb
  clear hb H HC
  obtain ⟨c0, c1, _, _⟩ := bk2 h1.blk
  obtain ⟨ad, cl, A1, c1', rfl, hcl, q1, q2, q3, q4⟩ := h1.elem (n : Int) (by omega) (by omega)
  obtain ⟨_, _, _, _, hmx⟩ := h1.list
  simp only [Int.toNat_natCast] at q1 q2
  rw [← HX.out] at q1
  rw [HM.out] at q1
  obtain ⟨As, cs, rfl, _, hC⟩ := h1.structs
  obtain ⟨sd, B1, d1, e2, s0, s1, _, _⟩ := at_T43 hC (m : Int) (by omega) (by omega)
  subst e2
  simp only [Int.toNat_natCast] at s0 s1
  rw [← HY.out] at s0
  have hw : IntKind.i64.wrap ((n : Int) + 1 - 1) = n := by rw [e1, IntKind.wrap_i64]; omega
  have hsm := Kd.C_max hC
  have hml : (m : Int) < (S.length : Int) := o1
  have hnl : (n : Int) < (L.length : Int) := by omega
  clear h1 q2 q3 q4 s1 hC HX HY HM
  go_wp2_with fail
  go_quiet (fail)
  go_wp2
  go_ret
  exact ⟨rfl, by first | exact HB.out | exact pw_below_drewN HB.out _⟩
set_option maxRecDepth 100000 in
set_option maxHeartbeats 2000000 in
theorem heap_Near.nil (obj : Int) (w : World) : Calls Try.prog 37 #[.pointer none, .int .i64 obj] w fun e w' => e = .returned (.slice none 0 0) ∧ Below w.heap.size w w' := by
 have HC := Aside0.mk (heap_is.nil obj w)
 go_enter Try.func37, Try.ntmps37
 go_wp2_with fail
 refine HC.out.mono ?_
 rintro e w1 ⟨rfl, hb⟩
 have HB := Aside0.mk hb; clear hb
 go_wp2
 go_ret
 exact ⟨rfl, HB.out⟩
set_option maxRecDepth 100000 in
set_option maxHeartbeats 2000000 in
theorem heap_Near.out (obj : Int) (h : HP w base g sv lv S L sok lok) (ho : isO L obj = false) : Calls Try.prog 37 #[ptr g, .int .i64 obj] w fun e w' => e = .returned (.slice none 0 0) ∧ Below w.heap.size w w' := by
 have hc := heap_is.calls obj h
 rw [ho] at hc
 have HC := Aside0.mk hc
 clear hc h ho
 go_enter Try.func37, Try.ntmps37
 go_wp2_with fail
 refine HC.out.mono ?_
 rintro e w1 ⟨rfl, hb⟩
 have HB := Aside0.mk hb; clear hb
 go_wp2
 go_ret
 exact ⟨rfl, HB.out⟩
set_option maxRecDepth 100000 in
set_option maxHeartbeats 8000000 in
theorem heap_Near.calls (k : Nat) (n : Nat) (x : Int × List Int) (y : S43) (ks : List Int) (h : HP w base g sv lv S L sok lok) (hk : OkL S L) (hn : n < L.length) (hx : x = rdO L (n : Int)) (hy : y = rd_T43 S x.1) (hks : kind_Links.f k y.f0 y.f1 = some ks) (hin : ∀ q ∈ ks, 0 ≤ q ∧ q < (y.f1.length : Int)) (hkl : ks.length ≤ 1000000) :
  Calls Try.prog 37 #[ptr g, .int .i64 ((n : Int) + 1)] w fun e w' => ∃ v0, e = .returned v0 ∧ (Kd.int .i64).R 3 w' w.heap.size (fun _ => True) v0 (sortC (nearTo L x.2 ks)) ∧ Below w.heap.size w w' := by
 have hc := heap_is.calls ((n : Int) + 1) h
 have ho : isO L ((n : Int) + 1) = true := decide_eq_true (by omega)
 rw [ho] at hc
 have e1 : (n : Int) + 1 - 1 = n := by omega
 obtain ⟨o0, o1, o2, o3⟩ := hk.all _ (hk.at (i := (n : Int)) (by omega) (by omega))
 rw [← hx] at o0 o1 o2 o3
 rw [← hy] at o2
 obtain ⟨m, hm⟩ : ∃ m : Nat, x.1 = m := ⟨x.1.toNat, by omega⟩
 rw [hm] at o1 hy
 obtain ⟨F, hF⟩ : ∃ F, F = x.2 := ⟨_, rfl⟩
 rw [← hF] at o2 o3 ⊢
 obtain ⟨ad, cl, A1, c1', rfl, hcl, p1, p2, _, p4⟩ := h.elem (n : Int) (by omega) (by omega)
 obtain ⟨_, _, _, _, hmx⟩ := h.list
 simp only [Int.toNat_natCast] at p1 p2
 rw [← hx, hm] at p1
 rw [← hx, ← hF] at p2 p4
 have HFC0 := Aside0.mk p4; have HP1 := Aside0.mk p1; have HP2 := Aside0.mk p2
 clear p1 p2 p4
 have H := Aside0.mk h; have HC := Aside0.mk hc; have HX := Aside0.mk hx; have HY := Aside0.mk hy; have HM := Aside0.mk hm; have HF := Aside0.mk hF; have HKS := Aside0.mk hks; have HIN := Aside0.mk hin; have HO2 := Aside0.mk o2
 have HKL := Aside0.mk hkl
 clear h hc hx hy hm hF hk ho o0 o2 o3 hks hin hkl
 go_enter Try.func37, Try.ntmps37
 go_wp2_with fail
 refine HC.out.mono ?_
 rintro e w1 ⟨rfl, hb⟩
 have HB := Aside0.mk hb
 have h1 := H.out.below hb
 have q4 := Kd.C_below HFC0.out hb
 clear HC
 obtain ⟨c0, c1, _, _⟩ := bk2 h1.blk
 have q1 := pw_cell_below hb HP1.out
 have q2 := pw_cell_below hb HP2.out
 obtain ⟨As, cs, rfl, _, hC⟩ := h1.structs
 obtain ⟨sd, B1, d1, e2, s0, s1, hld, hCd⟩ := at_T43 hC (m : Int) (by omega) (by omega)
 subst e2
 simp only [Int.toNat_natCast] at s0 s1
 rw [← HY.out] at s0 s1 hld hCd
 have hw : IntKind.i64.wrap ((n : Int) + 1 - 1) = n := by rw [e1, IntKind.wrap_i64]; omega
 have hsm := Kd.C_max hC
 have HFM := Aside0.mk (Kd.C_max q4)
 have HFC := Aside0.mk q4; have HDC := Aside0.mk hCd; have HLD := Aside0.mk hld
 have HBK := Aside0.mk h1.blk
 clear h1 q4 hC hCd hld hb HP1 HP2
 go_upto_region 5 with (fail)
 have HL2 : Aside0 ((w1.alloc (.cells #[.int .i64 m, .slice A1 F.length c1'] 119)).heap[w1.heap.size]? = some (.cells #[.int .i64 m, .slice A1 F.length c1'] 119 (0, 0))) := ⟨blk_new _ _⟩
 have HBA : Aside0 (Below w1.heap.size w1 (w1.alloc (.cells #[.int .i64 m, .slice A1 F.length c1'] 119))) := ⟨below_alloc (Below.refl _ _) _⟩
 generalize w1.alloc (.cells #[.int .i64 m, .slice A1 F.length c1'] 119) = wa at HL2 HBA ⊢
 have HBE : Aside0 (w.heap.size ≤ w1.heap.size) := ⟨HB.out.size⟩
 have HB2 := Aside0.mk (below_drew1 (below_step HB.out HBA.out))
 have HG2 := Aside0.mk (blk_drew (blk_below HBK.out HBA.out))
 have HL3 := Aside0.mk (blk_drew HL2.out)
 have HFC2 := Aside0.mk (Kd.C_drew (Kd.C_below HFC.out HBA.out))
 have HDC2 := Aside0.mk (Kd.C_drew (Kd.C_below HDC.out HBA.out))
 have HS0 := Aside0.mk (pw_cell_below (below_drew1 HBA.out) s0)
 have HS1 := Aside0.mk (pw_cell_below (below_drew1 HBA.out) s1)
 have hml : (m : Int) < (S.length : Int) := o1
 clear c0 c1 q1 q2 s0 s1 HB HBK HL2 HFC HDC HBA
 generalize w1.heap.size = bs at HL3 HBE ⊢
 refine start_ (n := 11) (S := fun w' => w'.heap[g]? = some (.cells #[.slice (some sd) S.length cs, .slice (some ad) L.length cl] 116 (0, 0)) ∧ w'.heap[bs]? = some (.cells #[.int .i64 m, .slice A1 F.length c1'] 119 (0, 0)) ∧ w'.cell? (sd.add (m * 2)) = some (.string y.f0) ∧ w'.cell? ⟨(sd.add (m * 2)).block, (sd.add (m * 2)).off + 1, none⟩ = some (.slice B1 y.f1.length d1)) (ds := []) (tf 0 11) (by kernel_rfl) rfl rfl ⟨HG2.out, HL3.out, HS0.out, HS1.out⟩ (fun hHeld => ?_)
 refine with_tabW heap_Near.tab5 heap_Near.bits5 (fun HT_ HW_ => ?_)
 generalize wa.drew = w3 at HB2 HG2 HFC2 HDC2 HL3 HS0 HS1 hHeld ⊢
 refine pure_ (i := 0) (N := some 21) (v := ?_) (a' := ?_) (tf 1 10) rfl rfl (any_of HT_.out (by kernel_rfl)) (fun _ _ _ h => h) (Or.inl ⟨by rfl, ?_⟩) ?_ ?_
 rotate_left
 ·intro w'
  go_simp
  with_reducible rfl
 rotate_left
 ·simp only [Act.put, List.setIfInBounds_toArray, List.set_cons_zero, List.set_cons_succ, i64_w, i32_w]
  rfl
 refine pure_ (i := 1) (N := some 22) (v := ?_) (a' := ?_) (tf 2 9) rfl rfl (any_of HT_.out (by kernel_rfl)) (fun _ _ _ h => h) (Or.inl ⟨by rfl, ?_⟩) ?_ ?_
 rotate_left
 ·intro w'
  go_simp
  with_reducible rfl
 rotate_left
 ·simp only [Act.put, List.setIfInBounds_toArray, List.set_cons_zero, List.set_cons_succ, i64_w, i32_w]
  rfl
 refine pure_ (i := 2) (N := some 23) (v := ?_) (a' := ?_) (tf 3 8) rfl rfl (any_of HT_.out (by kernel_rfl)) (fun _ _ _ h => h) (Or.inl ⟨by rfl, ?_⟩) ?_ ?_
 rotate_left
 ·intro w'
  go_simp
  with_reducible rfl
 rotate_left
 ·simp only [Act.put, List.setIfInBounds_toArray, List.set_cons_zero, List.set_cons_succ, i64_w, i32_w]
  rfl
 refine pure_ (i := 4) (N := some 25) (v := ?_) (a' := ?_) #[true, true, true, false, true, false, false, false, false, false, false] rfl rfl (any_of HT_.out (by kernel_rfl)) (fun _ _ _ h => h) (Or.inl ⟨by rfl, ?_⟩) ?_ ?_
 rotate_left
 ·intro w'
  go_simp
  with_reducible rfl
 rotate_left
 ·simp only [Act.put, List.setIfInBounds_toArray, List.set_cons_zero, List.set_cons_succ, i64_w, i32_w]
  rfl
 refine pure_ (i := 10) (N := some 31) (v := ?_) (a' := ?_) #[true, true, true, false, true, false, false, false, false, false, true] rfl rfl (any_of HT_.out (by kernel_rfl)) (fun _ _ _ h => h) (Or.inl ⟨by rfl, ?_⟩) ?_ ?_
 rotate_left
 ·intro w'
  go_simp
  with_reducible rfl
 rotate_left
 ·simp only [Act.put, List.setIfInBounds_toArray, List.set_cons_zero, List.set_cons_succ, i64_w, i32_w]
  rfl
 refine take_ (i := 3) (N := some 24) (v := ?_) (a' := ?_) #[true, true, true, true, true, false, false, false, false, false, true] rfl rfl (take_ofW HT_.out HW_.out (by kernel_rfl)) (fun _ _ _ h => h) (Or.inl ⟨by rfl, ?_⟩) hHeld ?_ ?_
 rotate_left
 ·rintro w' ⟨s0, s1, s2, s3⟩
  obtain ⟨c0, c1, _, _⟩ := bk2 s0
  obtain ⟨b0, b1, _, _⟩ := bk2 s1
  go_simp
  with_reducible rfl
 rotate_left
 ·simp only [Act.put, List.setIfInBounds_toArray, List.set_cons_zero, List.set_cons_succ, i64_w, i32_w]
  rfl
 refine take_ (i := 5) (N := some 26) (v := ?_) (a' := ?_) #[true, true, true, true, true, true, false, false, false, false, true] rfl rfl (take_ofW HT_.out HW_.out (by kernel_rfl)) (fun _ _ _ h => h) (Or.inl ⟨by rfl, ?_⟩) hHeld ?_ ?_
 rotate_left
 ·rintro w' ⟨s0, s1, s2, s3⟩
  obtain ⟨c0, c1, _, _⟩ := bk2 s0
  obtain ⟨b0, b1, _, _⟩ := bk2 s1
  go_simp
  with_reducible rfl
 rotate_left
 ·simp only [Act.put, List.setIfInBounds_toArray, List.set_cons_zero, List.set_cons_succ, i64_w, i32_w]
  rfl
 refine pure_ (i := 6) (N := some 27) (v := ?_) (a' := ?_) #[true, true, true, true, true, true, true, false, false, false, true] rfl rfl (any_of HT_.out (by kernel_rfl)) (fun _ _ _ h => h) (Or.inl ⟨by rfl, ?_⟩) ?_ ?_
 rotate_left
 ·intro w'
  go_simp
  with_reducible rfl
 rotate_left
 ·simp only [Act.put, List.setIfInBounds_toArray, List.set_cons_zero, List.set_cons_succ, i64_w, i32_w]
  rfl
 refine take_ (i := 7) (N := some 28) (v := ?_) (a' := ?_) #[true, true, true, true, true, true, true, true, false, false, true] rfl rfl (take_ofW HT_.out HW_.out (by kernel_rfl)) (fun _ _ _ h => h) (Or.inl ⟨by rfl, ?_⟩) hHeld ?_ ?_
 rotate_left
 ·rintro w' ⟨s0, s1, s2, s3⟩
  go_simp
  with_reducible rfl
 rotate_left
 ·simp only [Act.put, List.setIfInBounds_toArray, List.set_cons_zero, List.set_cons_succ, i64_w, i32_w]
  rfl
 refine one_ (i := 8) (N := some 29) #[true, true, true, true, true, true, true, true, true, false, true] rfl rfl (one_of HT_.out (by kernel_rfl)) (by decide) (fun K hK => ?_)
 refine goes_ Try.func26 (by kernel_rfl) rfl #[.agg #[.string y.f0, .slice B1 y.f1.length d1]] (by rfl) rfl rfl (by simp only [List.map_toArray, List.map_cons, List.map_nil]; rfl) ?_
 refine (kind_Links.calls k y.f0 B1 d1 y.f1 ks w3 HDC2.out HLD.out HKS.out).mono ?_
 rintro e w4 ⟨v9, rfl, hr9, hb9⟩
 refine ⟨_, rfl, ?_⟩
 obtain ⟨A9, c9, e9⟩ := Kd.R_slice hr9
 subst e9
 have HK9 : Aside0 ((Kd.int .i64).R 3 w4 w.heap.size (fun k => some k = (Value.slice A9 ks.length c9).ownBlock) (.slice A9 ks.length c9) ks) := ⟨Kd.R_tight rfl (Kd.R_lower hr9 HB2.out.size)⟩
 have HB9 := Aside0.mk (below_step HB2.out hb9)
 have HL9 := Aside0.mk (blkB hHeld.2.1 hb9)
 clear hr9
 refine hK.out _ _ ⟨(blkB hHeld.1 hb9), (blkB hHeld.2.1 hb9), (pw_cell_below hb9 hHeld.2.2.1), (pw_cell_below hb9 hHeld.2.2.2)⟩ (fun hHeld => ?_)
 clear hK K
 refine norm_ (a' := ?_) ?_ ?_
 rotate_left
 ·show Act.put _ (some 29) _ = _
  simp only [Act.put, List.setIfInBounds_toArray, List.set_cons_zero, List.set_cons_succ, i64_w, i32_w]
  rfl
 refine pure_ (i := 9) (N := some 30) (v := ?_) (a' := ?_) (tf 11 0) rfl rfl (any_of HT_.out (by kernel_rfl)) (fun _ _ _ h => h) (Or.inl ⟨by rfl, ?_⟩) ?_ ?_
 rotate_left
 ·intro w'
  go_simp
  with_reducible rfl
 rotate_left
 ·simp only [Act.put, List.setIfInBounds_toArray, List.set_cons_zero, List.set_cons_succ, i64_w, i32_w]
  rfl
 refine done_ (done_of HT_.out (by kernel_rfl)) ?_
 have hkm : ks.length ≤ 9223372036854775807 := by have := HKL.out; omega
 go_wp2_with fail
 go_loopw [6, 8, 31] (fun v6 _ v31 wr => ∃ (j : Nat), v31 = .int .i64 j ∧ j ≤ ks.length ∧ Aside0 (Below w.heap.size w wr) ∧ Aside0 (wr.heap[bs]? = some (.cells #[.int .i64 m, .slice A1 F.length c1'] 119 (0, 0))) ∧ Aside0 ((Kd.int .i64).R 3 wr w.heap.size (fun k => some k = (Value.slice A9 ks.length c9).ownBlock) (.slice A9 ks.length c9) ks) ∧ Aside0 ((Kd.int .i64).R 3 wr w.heap.size (fun k => some k ≠ (Value.slice A9 ks.length c9).ownBlock) v6 (nearTo L F (ks.take j)))) (fun _ _ v31 _ => ks.length - (intOf v31).toNat)
 case atStart => exact ⟨0, rfl, Nat.zero_le _, HB9, HL9, HK9, ⟨by rw [List.take_zero]; exact Kd.R_nil _ _ _ _ _⟩⟩
 case round =>
  clear HB9 HL9 HK9
  obtain ⟨j, rfl, hj, HBr, HLr, HKr, HOr⟩ := hrel
  by_cases hlt : j < ks.length
  ·obtain ⟨q, hq⟩ : ∃ q, q = rd ks (j : Int) := ⟨_, rfl⟩
   have hqm : q ∈ ks := by
    rw [hq]; unfold rd
    rw [Int.toNat_natCast, getD_at _ _ hlt]
    exact List.getElem_mem _
   obtain ⟨hq0, hq1⟩ := HIN.out q hqm
   obtain ⟨p, rfl⟩ : ∃ p : Nat, q = p := ⟨q.toNat, by omega⟩
   have hpF : p < F.length := by have := HO2.out; omega
   obtain ⟨ak, eak, hkc⟩ := Kd.at_int (Kd.R_reads' HKr.out).2.2 (j : Int) (by omega) (by omega)
   subst eak
   simp only [Int.toNat_natCast] at hkc
   rw [← hq] at hkc
   obtain ⟨b0, b1, _, _⟩ := bk2 HLr.out
   obtain ⟨af, eaf, hfc⟩ := Kd.at_int (Kd.C_below HFC0.out HBr.out) (p : Int) (by omega) (by omega)
   subst eaf
   simp only [Int.toNat_natCast] at hfc
   obtain ⟨z, hz⟩ : ∃ z, z = rd F (p : Int) := ⟨_, rfl⟩
   rw [← hz] at hfc
   have hnext : nearTo L F (ks.take (j + 1)) = nearTo L F (ks.take j) ++ (if isO L z = true then [z] else []) := by
    unfold nearTo
    rw [take_nextI ks 0 hlt, List.map_append, List.filter_append]
    congr 1
    have e3 : ks.getD j 0 = (p : Int) := by rw [hq]; unfold rd; rw [Int.toNat_natCast]
    rw [List.map_singleton, e3, ← hz]
    cases hh : isO L z <;> simp [hh]
   have HNX := Aside0.mk hnext
   have hcl2 := heap_is.calls z (H.out.below HBr.out)
   have hfm := HFM.out
   clear hnext hqm hq hz
   cases hoz : isO L z with
   | false =>
    rw [hoz] at hcl2
    have HC2 := Aside0.mk hcl2
    have hno : nearTo L F (ks.take (j + 1)) = nearTo L F (ks.take j) := by rw [HNX.out, hoz]; simp
    have HNO := Aside0.mk hno
    clear hcl2 hno hoz HNX
    go_wp2_with fail
    refine HC2.out.mono ?_
    rintro e wx ⟨rfl, hbx⟩
    have HBx := Aside0.mk (below_step HBr.out hbx)
    have HLx := Aside0.mk (blk_below HLr.out hbx)
    have HKx := Aside0.mk (Kd.R_below HKr.out hbx)
    have HOx := Aside0.mk (Kd.R_below HOr.out hbx)
    clear hbx b0 b1 hkc hfc HC2 HBr HLr HKr HOr
    go_wp2
    go_roundw
    case rel => exact ⟨j + 1, by go_num, by omega, HBx, HLx, HKx, ⟨by rw [HNO.out]; exact HOx.out⟩⟩
    case measure => simp [intOf]; omega
   | true =>
    rw [hoz] at hcl2
    have HC2 := Aside0.mk hcl2
    obtain ⟨Nj, hNj⟩ : ∃ Nj, Nj = nearTo L F (ks.take j) := ⟨_, rfl⟩
    have hyes : nearTo L F (ks.take (j + 1)) = Nj ++ [z] := by rw [HNX.out, hoz, hNj]; rfl
    have hnl : Nj.length ≤ 1000000 := by
     have h5 := nearTo_len L F (ks.take j)
     have h6 := HKL.out
     rw [← hNj, List.length_take] at h5
     omega
    rw [← hNj] at HOr
    have HYES := Aside0.mk hyes; have HNL := Aside0.mk hnl
    clear hcl2 hyes hoz HNX hNj hnl
    go_wp2_with fail
    refine HC2.out.mono ?_
    rintro e wx ⟨rfl, hbx⟩
    have HBx := Aside0.mk (below_step HBr.out hbx)
    have HLx := Aside0.mk (blk_below HLr.out hbx)
    have HKx := Aside0.mk (Kd.R_below HKr.out hbx)
    have HOx := Aside0.mk (Kd.R_below HOr.out hbx)
    have hfc2 := pw_cell_below hbx hfc
    clear hbx b0 b1 hkc hfc HC2 HBr HLr HKr HOr
    obtain ⟨b0, b1, _, _⟩ := bk2 HLx.out
    obtain ⟨Ao, co, eo⟩ := Kd.R_slice HOx.out
    subst eo
    go_wp2_with (at_builtin; refine Kd.R_append (Kd.int .i64) (w0 := w) w.heap.size rfl (.tmp 42) (.tmp 48) 45 3 (.int .i64 0) 8 rfl Try.underlying45 infoIn rfl (by decide) (by decide) _ Nj z [.int .i64 z] (fun k => some k ≠ (Value.slice (some ak) ks.length c9).ownBlock) (fun _ => False) rfl rfl ?aP (fun _ hk => hk.elim) ?aF HOx.out HBx.out HBx.out.size ?aL ?_)
    case aP => exact rfl
    case aF => intro k_ hk_ e_; have := Kd.R_lt HKx.out k_ e_.symm; omega
    case aL => have := HNL.out; omega
    intro v8 w8 hq8 hb8 hg8 _
    have hne9 : ∀ k, (Value.slice Ao Nj.length co).ownBlock = some k → some k ≠ (Value.slice (some ak) ks.length c9).ownBlock := fun k hk => HOx.out.1 k hk
    have HB8 := Aside0.mk hb8
    have HL8 := Aside0.mk (blkG HLx.out hg8 (Kd.R_ne HOx.out HLx.out (by decide)))
    have HK8 := Aside0.mk (Kd.R_grown HKx.out hg8 (fun k hk e => hne9 k e.symm hk))
    have HO8 : Aside0 ((Kd.int .i64).R 3 w8 w.heap.size (fun k => some k ≠ (Value.slice (some ak) ks.length c9).ownBlock) v8 (nearTo L F (ks.take (j + 1)))) := ⟨by rw [HYES.out]; exact hq8⟩
    clear hq8 hb8 hg8 HBx HLx HKx HOx b0 b1 hfc2
    go_wp2
    go_roundw
    case rel => exact ⟨j + 1, by go_num, by omega, HB8, HL8, HK8, HO8⟩
    case measure => simp [intOf]; omega
  ·have hje : j = ks.length := by omega
   have hO := HOr.out
   rw [hje, List.take_length] at hO
   have hnl := nearTo_len L F ks
   have HO1 := Aside0.mk hO; have HNL := Aside0.mk hnl
   clear hO hje hnl HOr
   go_wp2_with fail
   refine (sort_R HO1.out (by have := HNL.out; have := HKL.out; omega)).mono ?_
   rintro e w3 ⟨rfl, hR3, hg3⟩
   have HR3 := Aside0.mk hR3
   have HB3 := Aside0.mk (Below.grown HBr.out hg3 HBr.out.size (fun k hk => Kd.R_base HO1.out k hk))
   clear hR3 hg3
   go_wp2_with fail
   refine (compact_R HR3.out).mono ?_
   rintro e w4 ⟨v4, rfl, hR4, hg4, hob⟩
   have HR4 := Aside0.mk hR4
   have HB4 := Aside0.mk (Below.grown HB3.out hg4 HB3.out.size (fun k hk => Kd.R_base HR3.out k hk))
   clear hR4 hg4 hob
   go_wp2
   go_ret
   exact ⟨_, rfl, Kd.R_mono HR4.out (fun _ _ => trivial), HB4.out⟩
end
end Go.Proofs.Ytonmlncejikbiaa.Q
/- A heap's Reach: by hand, for whatever 'is' and 'Near' answer. -/
namespace Go.Proofs.Ytonmlncejikbiaa.Q
open Go.RowKit Go.Proofs.YtonmlncejikbiaaW.PrintWords Go.Proofs.YtonmlncejikbiaaW.PrintLast Go.Proofs.YtonmlncejikbiaaW.PrintMore
set_option linter.unusedVariables false
set_option linter.unusedSimpArgs false
open Go.Maps (Keyed)
def LIMR : Nat := 1099511627776
/-- The stack: what is reached. -/
def reachQ (isF : Int → Bool) (near : Int → Option (List Int)) : Nat → List Int → List Int → Option (List Int)
 | 0, _, _ => none
 | k + 1, todo, out =>
  if 0 < todo.length then
   (if isF (rd todo ((todo.length - 1 : Nat) : Int)) = true ∧ out.contains (rd todo ((todo.length - 1 : Nat) : Int)) = false then
    (near (rd todo ((todo.length - 1 : Nat) : Int))).bind fun ns =>
     if todo.length + ns.length < LIMR ∧ out.length < LIMR then reachQ isF near k (todo.take (todo.length - 1) ++ ns) (out ++ [rd todo ((todo.length - 1 : Nat) : Int)]) else none
   else reachQ isF near k (todo.take (todo.length - 1)) out)
  else some out
def ik (x : Int) : Lit := .int .i64 x
theorem ik_has (x : Int) (l : List Int) : decB (ik x ∈ l.map ik) = l.contains x := by
 have e : ik x ∈ l.map ik ↔ l.contains x = true := by
  rw [List.contains_iff_mem, List.mem_map]
  constructor
  ·rintro ⟨y, hy, e⟩
   unfold ik at e
   injection e with _ e
   rwa [e] at hy
  ·intro h; exact ⟨x, h, rfl⟩
 cases h : l.contains x
 ·exact decB_false (by rw [e, h]; simp)
 ·exact decB_true (by rw [e]; exact h)
theorem set_perm {w : World} {P : Program} {k e : TypeId} {b : Nat} {S S' : List Lit} (h : SetAt w P k e b S) (hm : ∀ x, x ∈ S' ↔ x ∈ S) (hl : S.length ≤ S'.length) : SetAt w P k e b S' := by
 obtain ⟨n, D, h1, h2, h3, h4⟩ := h
 exact ⟨n, D, h1, h2, Nat.le_trans h3 hl, fun x hx => by rw [h4 x hx]; congr 2; exact decB_iff (hm x).symm⟩
theorem zeroBo (w : World) : (zeroValue 4).run Try.prog w = .ok (.bool false) w := by kernel_rfl
theorem wf_small {x : Int} (h0 : 1 ≤ x) (h1 : x ≤ 1099511627776) : (Lit.int .i64 x).wf = true := by
 simp [Lit.wf, IntKind.min, IntKind.max, IntKind.signed, IntKind.bits]
 omega
set_option maxRecDepth 100000 in
set_option maxHeartbeats 8000000 in
theorem heap_Reach.any (pv : Value) (isF : Int → Bool) (near : Int → Option (List Int)) (k : Nat) (A0 : Option Addr) (c0 : Nat) (l0 out : List Int) (w : World)
  (his : ∀ w' x, Below w.heap.size w w' → Calls Try.prog 83 #[pv, .int .i64 x] w' fun e w2 => e = .returned (.bool (isF x)) ∧ Below w'.heap.size w' w2)
  (hne : ∀ w' x ns, Below w.heap.size w w' → isF x = true → near x = some ns → Calls Try.prog 37 #[pv, .int .i64 x] w' fun e w2 => ∃ v0, e = .returned v0 ∧ (Kd.int .i64).R 3 w2 w'.heap.size (fun _ => True) v0 ns ∧ Below w'.heap.size w' w2)
  (hsm : ∀ x, isF x = true → 1 ≤ x ∧ x ≤ 1099511627776)
  (hr0 : (Kd.int .i64).C w A0 l0.length l0) (hc0 : l0.length ≤ c0) (hl : l0.length ≤ 1000000) (h : reachQ isF near k l0 [] = some out) (hol : out.length < LIMR) :
  Calls Try.prog 36 #[pv, .slice A0 l0.length c0] w fun e w' => ∃ v0, e = .returned v0 ∧ (Kd.int .i64).R 3 w' w.heap.size (fun _ => True) v0 (out.mergeSort fun x y => decide (x ≤ y)) ∧ Below w.heap.size w w' := by
 have HIS := Aside0.mk his; have HNE := Aside0.mk hne; have HSM := Aside0.mk hsm; have HR0 := Aside0.mk hr0; have HC0 := Aside0.mk hc0; have HLL := Aside0.mk hl; have HQ := Aside0.mk h; have HOL := Aside0.mk hol
 clear his hne hsm hr0 hc0 hl h hol
 have hmm := @run_makeMap Try.prog
 go_enter Try.func36, Try.ntmps36
 go_wp2_with fail
 have HB1 : Aside0 (Below w.heap.size w (w.alloc (.map #[] 0))) := ⟨below_alloc (Below.refl _ _) _⟩
 have HS1 : Aside0 (SetAt (w.alloc (.map #[] 0)) Try.prog 3 4 w.heap.size (([] : List Int).map ik)) := ⟨SetAt.made w _ _ _⟩
 generalize w.alloc (.map #[] 0) = w1 at HB1 HS1 ⊢
 refine (slices_Clone_int_int.calls A0 c0 l0 l0 w1 (Kd.C_below HR0.out HB1.out) HC0.out (if_pos HLL.out)).mono ?_
 rintro e w2 ⟨vt, rfl, hrt, hb2⟩
 have HB2 := Aside0.mk (below_step HB1.out hb2)
 have HS2 := Aside0.mk (SetAt.below HS1.out hb2)
 have HT2 : Aside0 ((Kd.int .i64).R 3 w2 w.heap.size (fun k => True ∧ some k ≠ (Value.slice none 0 0).ownBlock) vt l0) := ⟨Kd.R_mono (Kd.R_lower hrt HB1.out.size) (fun k _ => ⟨trivial, by simp [Value.ownBlock]⟩)⟩
 clear hrt hb2 HB1 HS1 hmm
 go_wp2_with fail
 go_loopg [6, 7, 8] k (fun kq v6 v7 _ wr => ∃ todo ou : List Int, Aside0 (reachQ isF near kq todo ou = some out) ∧ Aside0 ((Kd.int .i64).R 3 wr w.heap.size (fun k => True ∧ some k ≠ v7.ownBlock) v6 todo) ∧ Aside0 ((Kd.int .i64).R 3 wr w.heap.size (fun _ => True) v7 ou) ∧ Aside0 (SetAt wr Try.prog 3 4 w.heap.size (ou.map ik)) ∧ Aside0 (Below w.heap.size w wr))
 case atStart => exact ⟨l0, [], HQ, HT2, ⟨Kd.R_nil _ _ _ _ _⟩, HS2, HB2⟩
 case round =>
  clear HQ HT2 HS2 HB2
  obtain ⟨todo, ou, HQ, HT, HO, HS, HB⟩ := hrel
  cases gk with
  | zero => exact absurd HQ.out (by simp [reachQ])
  | succ kq =>
  obtain ⟨A, c, rfl, hc, hC⟩ := Kd.R_reads HT.out
  have htm := Kd.C_max hC
  by_cases hp : 0 < todo.length
  ·have hq := HQ.out
   unfold reachQ at hq
   rw [if_pos hp] at hq
   obtain ⟨m, hm⟩ : ∃ m, todo.length = m + 1 := ⟨todo.length - 1, by omega⟩
   have em : todo.length - 1 = m := by omega
   rw [em] at hq
   obtain ⟨x, hx⟩ : ∃ x, x = rd todo (m : Int) := ⟨_, rfl⟩
   obtain ⟨tk, htk⟩ : ∃ tk, tk = todo.take m := ⟨_, rfl⟩
   rw [← hx, ← htk] at hq
   obtain ⟨ad, ea, hcell⟩ := Kd.at_int hC (m : Int) (by omega) (by omega)
   subst ea
   simp only [Int.toNat_natCast] at hcell
   rw [← hx] at hcell
   obtain ⟨hcut, hR3⟩ := cut_stack (P := Try.prog) (t := 45) (e := 3) Try.underlying45 (by kernel_rfl) HT.out rfl hc hp
   rw [em, ← htk] at hR3
   rw [em] at hcut
   have hwr : IntKind.i64.wrap ((todo.length : Int) - 1) = (m : Int) := by rw [IntKind.wrap_i64]; omega
   have hcut2 : ∀ W : World, (Instr.slice 45 (.slice (some ad) todo.length c) none (some (.int .i64 (m : Int))) none).run Try.prog W = .ok (.slice (some ad) m c) W := fun W => by
    have := hcut W
    rwa [show ((todo.length : Int) - 1) = (m : Int) by omega] at this
   have htkl : tk.length = m := by rw [htk, List.length_take]; omega
   have HTK := Aside0.mk htkl
   have HR3 := Aside0.mk hR3
   have hml : (m : Int) < (todo.length : Int) := by omega
   have HM := Aside0.mk hm
   have HQ1 := Aside0.mk hq
   have hd0 : decide (0 < (todo.length : Int)) = true := decide_eq_true (by omega)
   clear hC hq hx htk hR3 hcut hc HT HQ htkl em hm hp
   go_wp2_with fail
   refine (HIS.out wr x HB.out).mono ?_
   rintro e w3 ⟨rfl, hb3⟩
   have HB3 := Aside0.mk (below_step HB.out hb3)
   have HT3 := Aside0.mk (Kd.R_below HR3.out hb3)
   have HO3 := Aside0.mk (Kd.R_below HO.out hb3)
   have HS3 := Aside0.mk (SetAt.below HS.out hb3)
   clear hb3 HB HR3 HO HS hcell hcut2
   cases hix : isF x with
   | false =>
    have hq1 := HQ1.out
    rw [if_neg (fun hh => by rw [hix] at hh; exact absurd hh.1 (by decide))] at hq1
    have HQ2 := Aside0.mk hq1
    clear hq1 HQ1 hix
    go_wp2
    go_roundg kq
    case rel => exact ⟨tk, ou, HQ2, ⟨by have h := HT3.out; exact h⟩, HO3, HS3, HB3⟩
    case measure => omega
   | true =>
    obtain ⟨hx1, hx2⟩ := HSM.out x hix
    have hwf := wf_small hx1 hx2
    have hlk : (Instr.lookup 121 (.map (some w.heap.size)) (.int .i64 x) false).run Try.prog w3 = .ok (.bool (ou.contains x)) w3 := by
     rw [← ik_has]
     exact SetAt.lookup HS3.out (Go.Maps.int_keyed Try.underlying3) Try.underlying121 Try.underlying4 (zeroBo w3) (Go.Maps.keyOf_int_mk Try.underlying3 hwf) trivial
    cases hcx : ou.contains x with
    | true =>
     rw [hcx] at hlk
     have hq1 := HQ1.out
     rw [if_neg (fun hh => by rw [hcx] at hh; exact absurd hh.2 (by decide))] at hq1
     have HQ2 := Aside0.mk hq1
     clear hq1 HQ1 hix hcx hwf hx1 hx2
     go_wp2
     go_roundg kq
     case rel => exact ⟨tk, ou, HQ2, ⟨by have h := HT3.out; exact h⟩, HO3, HS3, HB3⟩
     case measure => omega
    | false =>
     rw [hcx] at hlk
     have hq1 := HQ1.out
     rw [if_pos ⟨hix, hcx⟩] at hq1
     obtain ⟨ns, hns, hq1⟩ := Option.bind_eq_some_iff.mp hq1
     by_cases hlim : todo.length + ns.length < LIMR ∧ ou.length < LIMR
     case neg => rw [if_neg hlim] at hq1; cases hq1
     rw [if_pos hlim] at hq1
     have HQ2 := Aside0.mk hq1; have HNS := Aside0.mk hns; have HLIM := Aside0.mk hlim; have HIX := Aside0.mk hix
     have hkey : keyOf Try.prog 3 (.int .i64 x) = some (ik x) := Go.Maps.keyOf_int_mk Try.underlying3 hwf
     have HKEY := Aside0.mk hkey
     clear hq1 HQ1 hix hcx hwf hx1 hx2 hns hlim hkey
     go_wp2_with (at_mapUpdate; refine SetAt.update_op HS3.out rfl (.tmp 35) (.tmp 36) (.const (.bool true)) rfl (Go.Maps.int_keyed Try.underlying3) Try.underlying121 Try.underlying4 rfl ?hn (.int .i64 x) (ik x) rfl rfl HKEY.out trivial ?_)
     case hn => rw [List.length_map]; have := HLIM.out.2; unfold LIMR at this; unfold maxLen; omega
     intro w4 hs4 hg4
     have HB4 : Aside0 (Below w.heap.size w w4) := ⟨HB3.out.grown hg4 HB3.out.size (fun j hj => by injection hj with hj; omega)⟩
     have hneT : ∀ {α : Type} {d : Kd α} {okx : Nat → Prop} {vx : Value} {xs : List α}, d.R 3 w3 w.heap.size okx vx xs → ∀ k, vx.ownBlock = some k → k ≠ w.heap.size := fun hR k hk e => (SetAt.ne_own HS3.out (Kd.Q_of_R hR)) (by rw [hk, e])
     have HT4 : Aside0 ((Kd.int .i64).R 3 w4 w.heap.size (fun k => True ∧ some k ≠ u7.ownBlock) (.slice (some ad) m c) tk) := ⟨Kd.R_mono (Kd.R_grown (Kd.R_tight2 rfl HT3.out) hg4 (fun k hk e => hneT HT3.out k hk.1.symm (by injection e))) (fun k hk => hk.2)⟩
     have HO4 : Aside0 ((Kd.int .i64).R 3 w4 w.heap.size (fun _ => True) u7 ou) := ⟨Kd.R_mono (Kd.R_grown (Kd.R_tight rfl HO3.out) hg4 (fun k hk e => hneT HO3.out k hk.symm (by injection e))) (fun _ _ => trivial)⟩
     have HS4 : Aside0 (SetAt w4 Try.prog 3 4 w.heap.size ((ik x) :: ou.map ik)) := ⟨hs4⟩
     clear hs4 hg4 hlk hneT HS3 HT3 HO3 HB3 HKEY
     obtain ⟨Ao, co, eo⟩ := Kd.R_slice HO4.out
     subst eo
     go_wp2_with (at_builtin; refine Kd.R_append (Kd.int .i64) (w0 := w) w.heap.size rfl (.tmp 37) (.tmp 39) 45 3 (.int .i64 0) 8 rfl Try.underlying45 infoIn rfl (by decide) (by decide) _ ou x [.int .i64 x] (fun _ => True) (fun _ => False) rfl rfl ?aP (fun _ hk => hk.elim) ?aF HO4.out HB4.out HB4.out.size ?aL ?_)
     case aP => exact rfl
     case aF => exact fun _ _ => trivial
     case aL => have := HLIM.out.2; unfold LIMR at this; omega
     intro v5 w5 hq5 hb5 hg5 hat5
     have HB5 := Aside0.mk hb5
     have HO5 := Aside0.mk hq5
     have HT5 := Aside0.mk (Kd.R_after HT4.out hg5 hat5)
     have HS5 := Aside0.mk (SetAt.kept HS4.out hg5 (SetAt.ne_own HS4.out (Kd.Q_of_R HO4.out)))
     clear hq5 hb5 hg5 hat5 HT4 HO4 HS4 HB4
     go_wp2_with fail
     refine (HNE.out w5 x ns HB5.out HIX.out HNS.out).mono ?_
     rintro e w6 ⟨vn, rfl, hrn, hb6⟩
     have HB6 := Aside0.mk (below_step HB5.out hb6)
     have HT6 := Aside0.mk (Kd.R_below HT5.out hb6)
     have HO6 := Aside0.mk (Kd.R_below HO5.out hb6)
     have HS6 := Aside0.mk (SetAt.below HS5.out hb6)
     obtain ⟨An, cn, rfl, hcn, hCn⟩ := Kd.R_reads hrn
     have HCN := Aside0.mk hCn
     clear hrn hb6 hCn HT5 HO5 HS5 HB5
     go_wp2_with (at_builtin; refine Kd.R_append_row (Value.int .i64) (0 : Int) (w0 := w) w.heap.size rfl (.tmp 41) (.tmp 44) 45 3 (.int .i64 0) 8 rfl Try.underlying45 infoIn rfl (by decide) _ tk ns An ns.length cn (fun k => True ∧ some k ≠ v5.ownBlock) rfl rfl ?bF HT6.out HCN.out HB6.out HB6.out.size ?bL ?_)
     case bF => exact fun k hk => ⟨trivial, fun e => by have := Kd.R_lt HO6.out k e.symm; omega⟩
     case bL => have := HLIM.out.1; have := HTK.out; have := HM.out; unfold LIMR at *; omega
     intro v7 w7 hq7 hb7 hg7 hat7
     have HB7 := Aside0.mk hb7
     have HT7 : Aside0 ((Kd.int .i64).R 3 w7 w.heap.size (fun k => True ∧ some k ≠ v5.ownBlock) v7 (tk ++ ns)) := ⟨Kd.R_mono hq7 (fun k hk => ⟨trivial, by simpa using hk⟩)⟩
     have HO7 : Aside0 ((Kd.int .i64).R 3 w7 w.heap.size (fun _ => True) v5 (ou ++ [x])) := ⟨Kd.R_mono (Kd.R_grown (Kd.R_tight rfl HO6.out) hg7 (fun k hk e => (HT6.out.1 k e.symm).2 hk)) (fun _ _ => trivial)⟩
     have HS7a := Aside0.mk (SetAt.kept HS6.out hg7 (SetAt.ne_own HS6.out (Kd.Q_of_R HT6.out)))
     clear hq7 hb7 hg7 hat7 HT6 HO6 HS6 HB6 HCN
     have HS7 : Aside0 (SetAt w7 Try.prog 3 4 w.heap.size ((ou ++ [x]).map ik)) := ⟨set_perm HS7a.out (by simp [or_comm]) (by simp)⟩
     go_wp2
     go_roundg kq
     case rel => exact ⟨tk ++ ns, ou ++ [x], HQ2, HT7, HO7, HS7, HB7⟩
     case measure => omega
  ·have hq := HQ.out
   unfold reachQ at hq
   rw [if_neg hp] at hq
   obtain rfl := Option.some.inj hq
   have h0 : todo.length = 0 := by omega
   clear hq HQ hC hc HT HS
   rw [h0]
   clear h0 hp htm
   go_wp2_with fail
   refine (sort_R HO.out (by have := HOL.out; unfold LIMR at this; omega)).mono ?_
   rintro e w3 ⟨rfl, hR3, hg3⟩
   have HR3 := Aside0.mk hR3
   have HB3 := Aside0.mk (Below.grown HB.out hg3 HB.out.size (fun k hk => Kd.R_base HO.out k hk))
   clear hR3 hg3
   go_wp2
   go_ret
   exact ⟨_, rfl, HR3.out, HB3.out⟩
end Go.Proofs.Ytonmlncejikbiaa.Q
/- The anchor of chapter 6: by hand. -/
namespace Go.Proofs.Ytonmlncejikbiaa.Q
open Go.RowKit Go.Proofs.YtonmlncejikbiaaW.PrintWords Go.Proofs.YtonmlncejikbiaaW.PrintLast Go.Proofs.YtonmlncejikbiaaW.PrintMore
set_option linter.unusedVariables false
set_option linter.unusedSimpArgs false
def sT : S43 := ⟨⟨#[84]⟩, [⟨⟨#[110]⟩, ⟨#[105, 110, 116]⟩⟩, ⟨⟨#[116]⟩, ⟨#[42, 84]⟩⟩]⟩
theorem aw_check : kind_Check.f 40 [sT] = some (0, 0) := by kernel_rfl
theorem aw_bad : kind_Check.f 40 [⟨⟨#[]⟩, []⟩] = some (0, 1) := by kernel_rfl
theorem aw_links : kind_Links.f 40 sT.f0 sT.f1 = some [1] := by kernel_rfl
theorem aw_sF : ∀ x ∈ [sT], x.f1.length ≤ 1000000 := fun x hx => by rw [List.mem_singleton.mp hx]; decide
def L1a : List (Int × List Int) := [(0, [0, 0])]
def L2a : List (Int × List Int) := [(0, [0, 0]), (0, [0, 0])]
def L3a : List (Int × List Int) := [(0, [0, 2]), (0, [0, 0])]
theorem aw_ok : OkL [sT] L3a := ⟨by decide, fun x hx => by
 have h : x = (0, [0, 2]) ∨ x = (0, [0, 0]) := by simpa [L3a] using hx
 rcases h with rfl | rfl
 ·exact ⟨by decide, by decide, by kernel_rfl, fun n hn => by simp at hn; omega⟩
 ·exact ⟨by decide, by decide, by kernel_rfl, fun n hn => by simp at hn; omega⟩⟩
theorem sort_one (x : Int) : sortC [x] = [x] := by unfold sortC; rw [List.mergeSort_singleton]; rfl
theorem sort_nil : sortC [] = [] := by unfold sortC; rw [List.mergeSort_nil]; rfl
def nearA (x : Int) : Option (List Int) := if x = 1 then some [2] else if x = 2 then some [] else none
theorem aw_reach : reachQ (isO L3a) nearA 20 [1] [] = some [1, 2] := by kernel_rfl
theorem aw_sorted : [1, 2].mergeSort (fun x y : Int => decide (x ≤ y)) = [1, 2] := List.mergeSort_of_pairwise (by decide)
section
variable {base g : Nat} {w : World} {sv lv : Value} {sok lok : Nat → Prop}
theorem aw_near1 (h : HP w base g sv lv [sT] L3a sok lok) : Calls Try.prog 37 #[ptr g, .int .i64 1] w fun e w' => ∃ v0, e = .returned v0 ∧ (Kd.int .i64).R 3 w' w.heap.size (fun _ => True) v0 [2] ∧ Below w.heap.size w w' := by
 have h1 := heap_Near.calls 40 0 (0, [0, 2]) sT [1] h aw_ok (by decide) rfl rfl aw_links (fun q hq => by rw [List.mem_singleton.mp hq]; decide) (by decide)
 have e : sortC (nearTo L3a [0, 2] [1]) = [2] := by
  have : nearTo L3a [0, 2] [1] = [2] := by kernel_rfl
  rw [this, sort_one]
 rw [show ((0, [0, 2]) : Int × List Int).2 = [0, 2] from rfl, e] at h1
 exact h1
theorem aw_near2 (h : HP w base g sv lv [sT] L3a sok lok) : Calls Try.prog 37 #[ptr g, .int .i64 2] w fun e w' => ∃ v0, e = .returned v0 ∧ (Kd.int .i64).R 3 w' w.heap.size (fun _ => True) v0 [] ∧ Below w.heap.size w w' := by
 have h1 := heap_Near.calls 40 1 (0, [0, 0]) sT [1] h aw_ok (by decide) rfl rfl aw_links (fun q hq => by rw [List.mem_singleton.mp hq]; decide) (by decide)
 have e : sortC (nearTo L3a [0, 0] [1]) = [] := by
  have : nearTo L3a [0, 0] [1] = [] := by kernel_rfl
  rw [this, sort_nil]
 rw [show ((0, [0, 0]) : Int × List Int).2 = [0, 0] from rfl, e] at h1
 exact h1
theorem aw_make1 (h : HP w base g sv lv [sT] [] sok lok) : Calls Try.prog 34 #[ptr g, .string ⟨#[84]⟩] w fun e w' => e = .returned (.tuple #[.int .i64 1, .int .i64 0]) ∧
   ∃ lv' lok', HP w' base g sv lv' [sT] L1a sok lok' ∧ (∀ k, lok' k → lok k ∨ w.heap.size ≤ k) ∧ Kept w w' (Turns g lok) ∧ Below base w w' := by
 have h1 := heap_Make.calls ⟨#[84]⟩ h (by decide) aw_sF
 rw [show mkN [sT] [] ⟨#[84]⟩ = 1 by kernel_rfl, show mkE [sT] [] ⟨#[84]⟩ = 0 by kernel_rfl, show mkL [sT] [] ⟨#[84]⟩ = L1a by kernel_rfl] at h1
 exact h1
theorem aw_make2 (h : HP w base g sv lv [sT] L1a sok lok) : Calls Try.prog 34 #[ptr g, .string ⟨#[84]⟩] w fun e w' => e = .returned (.tuple #[.int .i64 2, .int .i64 0]) ∧
   ∃ lv' lok', HP w' base g sv lv' [sT] L2a sok lok' ∧ (∀ k, lok' k → lok k ∨ w.heap.size ≤ k) ∧ Kept w w' (Turns g lok) ∧ Below base w w' := by
 have h1 := heap_Make.calls ⟨#[84]⟩ h (by decide) aw_sF
 rw [show mkN [sT] L1a ⟨#[84]⟩ = 2 by kernel_rfl, show mkE [sT] L1a ⟨#[84]⟩ = 0 by kernel_rfl, show mkL [sT] L1a ⟨#[84]⟩ = L2a by kernel_rfl] at h1
 exact h1
theorem aw_set (h : HP w base g sv lv [sT] L2a sok lok) : Calls Try.prog 35 #[ptr g, .int .i64 1, .int .i64 1, .int .i64 2] w fun e w' => e = .returned (.int .i64 0) ∧ HP w' base g sv lv [sT] L3a sok lok ∧ Kept w w' lok ∧ Below base w w' := by
 have h1 := heap_Set.calls 1 1 2 h
 rw [show chkE L2a 1 1 = 0 by kernel_rfl, show setO L2a 1 1 2 = L3a by kernel_rfl] at h1
 exact h1
theorem aw_get (o f a b : Int) (h : HP w base g sv lv [sT] L3a sok lok) (ea : getO L3a o f = a) (eb : chkE L3a o f = b) : Calls Try.prog 39 #[ptr g, .int .i64 o, .int .i64 f] w fun e w' => e = .returned (.tuple #[.int .i64 a, .int .i64 b]) ∧ Below w.heap.size w w' := by
 have h1 := heap_Get.calls o f h
 rw [ea, eb] at h1
 exact h1
theorem aw_of (h : HP w base g sv lv [sT] L3a sok lok) : Calls Try.prog 40 #[ptr g, .int .i64 2] w fun e w' => e = .returned (.string ⟨#[84]⟩) ∧ Below w.heap.size w w' := by
 have h1 := heap_Of.calls 2 h aw_ok
 rw [show ofO [sT] L3a 2 = ⟨#[84]⟩ by kernel_rfl] at h1
 exact h1
theorem aw_len (h : HP w base g sv lv [sT] L3a sok lok) : Calls Try.prog 41 #[ptr g] w fun e w' => e = .returned (.int .i64 2) ∧ Below w.heap.size w w' := heap_Len.calls h
theorem aw_rea (A0 : Option Addr) (c0 : Nat) (h : HP w base g sv lv [sT] L3a sok lok) (hr0 : (Kd.int .i64).C w A0 1 [1]) (hc0 : 1 ≤ c0) : Calls Try.prog 36 #[ptr g, .slice A0 1 c0] w fun e w' => ∃ v0, e = .returned v0 ∧ (Kd.int .i64).R 3 w' w.heap.size (fun _ => True) v0 [1, 2] ∧ Below w.heap.size w w' := by
 have h1 := heap_Reach.any (ptr g) (isO L3a) nearA 20 A0 c0 [1] [1, 2] w (fun w' x hb => heap_is.calls x (h.below hb)) (fun w' x ns hb hx hn => by
  unfold nearA at hn
  split at hn
  ·rename_i e; subst e; obtain rfl := Option.some.inj hn; exact aw_near1 (h.below hb)
  ·split at hn
   ·rename_i e; subst e; obtain rfl := Option.some.inj hn; exact aw_near2 (h.below hb)
   ·cases hn) (fun x hx => by
  have := of_decide_eq_true hx
  have e : L3a.length = 2 := rfl
  rw [e] at this
  omega) hr0 hc0 (by decide) aw_reach (by decide)
 rw [aw_sorted] at h1
 exact h1
end
theorem sT_row (w : World) : Kd.C k43 ((w.alloc (.cells #[.string ⟨#[110]⟩, .string ⟨#[105, 110, 116]⟩, .string ⟨#[116]⟩, .string ⟨#[42, 84]⟩] 48)).alloc (.cells #[.string ⟨#[84]⟩, .slice (some ⟨w.heap.size, 0, none⟩) 2 2] 43)) (some ⟨w.heap.size + 1, 0, none⟩) 1 [sT] := by
 have hf := lit_R k48 (W := w) w.heap.size 48 (xs := sT.f1) (inner := [.string ⟨#[110]⟩, .string ⟨#[105, 110, 116]⟩, .string ⟨#[116]⟩, .string ⟨#[42, 84]⟩]) (ok := fun _ => True) (okp := fun _ => True) (Reps.c2 ⟨[.string ⟨#[110]⟩], [.string ⟨#[105, 110, 116]⟩], rfl, rfl, rfl⟩ (Reps.c2 ⟨[.string ⟨#[116]⟩], [.string ⟨#[42, 84]⟩], rfl, rfl, rfl⟩ (Reps.none _ _))) (fun _ h => h) trivial (Nat.le_refl _) (by decide)
 have e1 : (w.alloc (.cells #[.string ⟨#[110]⟩, .string ⟨#[105, 110, 116]⟩, .string ⟨#[116]⟩, .string ⟨#[42, 84]⟩] 48)).heap.size = w.heap.size + 1 := World.size_alloc _ _
 have hs := lit_R k43 (W := w.alloc (.cells #[.string ⟨#[110]⟩, .string ⟨#[105, 110, 116]⟩, .string ⟨#[116]⟩, .string ⟨#[42, 84]⟩] 48)) w.heap.size 43 (xs := [sT]) (inner := [.string ⟨#[84]⟩, .slice (some ⟨w.heap.size, 0, none⟩) 2 2]) (ok := fun _ => True) (okp := fun _ => True) (Reps.c2 (k43_mkM _ _ _ sT hf) (Reps.none _ _)) (fun _ h => h) trivial (by omega) (by decide)
 rw [e1] at hs
 exact (Kd.R_reads' hs).2.2
theorem s0_row (w : World) : Kd.C k43 (w.alloc (.cells #[.string ⟨#[]⟩, .slice none 0 0] 43)) (some ⟨w.heap.size, 0, none⟩) 1 [⟨⟨#[]⟩, []⟩] :=
 (Kd.R_reads' (lit_R k43 (W := w) w.heap.size 43 (xs := [⟨⟨#[]⟩, []⟩]) (inner := [.string ⟨#[]⟩, .slice none 0 0]) (ok := fun _ => True) (okp := fun _ => True) (Reps.c2 (k43_mkM _ _ _ ⟨⟨#[]⟩, []⟩ (Kd.R_nil _ _ _ _ _)) (Reps.none _ _)) (fun _ h => h) trivial (Nat.le_refl _) (by decide))).2.2
theorem r1_row (w : World) : (Kd.int .i64).C (w.alloc (.cells #[.int .i64 1] 3)) (some ⟨w.heap.size, 0, none⟩) 1 [1] :=
 (Kd.R_reads' (lit_R (Kd.int .i64) (W := w) w.heap.size 3 (xs := [1]) (inner := [.int .i64 1]) (ok := fun _ => True) (okp := fun _ => True) (Reps.one rfl (Reps.none _ _)) (fun _ h => h) trivial (Nat.le_refl _) (by decide))).2.2
def truantlaw06_awake.f : Option (Bool) := some true
set_option maxRecDepth 100000 in
set_option maxHeartbeats 8000000 in
theorem truantlaw06_awake.calls (r : Bool) (w : World) (h : truantlaw06_awake.f = some r) :
  Calls Try.prog 31 #[] w fun e w' => e = .returned (.bool r) ∧ Below w.heap.size w w' := by
 obtain rfl := Option.some.inj h
 clear h
 have HC0 := Aside0.mk (sT_row w)
 go_enter Try.func31, Try.ntmps31
 go_wp2_with fail
 have e1 : (w.alloc (.cells #[.string ⟨#[110]⟩, .string ⟨#[105, 110, 116]⟩, .string ⟨#[116]⟩, .string ⟨#[42, 84]⟩] 48)).heap.size = w.heap.size + 1 := World.size_alloc _ _
 have HBa : Aside0 (Below w.heap.size w ((w.alloc (.cells #[.string ⟨#[110]⟩, .string ⟨#[105, 110, 116]⟩, .string ⟨#[116]⟩, .string ⟨#[42, 84]⟩] 48)).alloc (.cells #[.string ⟨#[84]⟩, .slice (some ⟨w.heap.size, 0, none⟩) 2 2] 43))) := ⟨below_alloc (below_alloc (Below.refl _ _) _) _⟩
 try rw [e1]
 refine (heap_New.calls 40 (some ⟨w.heap.size + 1, 0, none⟩) 1 [sT] 0 _ HC0.out (Nat.le_refl _) aw_check (by decide) aw_sF).mono ?_
 rintro e w1 ⟨g, sv, sok, rfl, hp1, hb1, hs1⟩
 have HB1 := Aside0.mk (below_step HBa.out hb1)
 have HW := Aside0.mk HBa.out.size
 have H1 := Aside0.mk hp1
 clear hp1 hb1 HC0 HBa e1
 generalize ((w.alloc (.cells #[.string ⟨#[110]⟩, .string ⟨#[105, 110, 116]⟩, .string ⟨#[116]⟩, .string ⟨#[42, 84]⟩] 48)).alloc (.cells #[.string ⟨#[84]⟩, .slice (some ⟨w.heap.size, 0, none⟩) 2 2] 43)).heap.size = base at H1 HW hs1
 go_wp2_with fail
 refine (aw_make1 H1.out).mono ?_
 rintro e w2 ⟨rfl, lv2, lok2, h2, _, _, hb2⟩
 have HB2 := Aside0.mk (HB1.out.trans (hb2.mono HW.out)); have H2 := Aside0.mk h2
 clear h2 hb2 H1 HB1
 go_wp2_with fail
 refine (aw_make2 H2.out).mono ?_
 rintro e w3 ⟨rfl, lv3, lok3, h3, _, _, hb3⟩
 have HB3 := Aside0.mk (HB2.out.trans (hb3.mono HW.out)); have H3 := Aside0.mk h3
 clear h3 hb3 H2 HB2
 go_wp2_with fail
 refine (aw_set H3.out).mono ?_
 rintro e w4 ⟨rfl, h4, _, hb4⟩
 have HB4 := Aside0.mk (HB3.out.trans (hb4.mono HW.out)); have H4 := Aside0.mk h4
 clear h4 hb4 H3 HB3
 go_wp2_with fail
 refine (aw_get 1 1 2 0 H4.out (by kernel_rfl) (by kernel_rfl)).mono ?_
 rintro e w5 ⟨rfl, hb5⟩
 have HB5 := Aside0.mk (below_step HB4.out hb5); have H5 := Aside0.mk (H4.out.below hb5)
 clear hb5 H4 HB4
 go_wp2_with fail
 refine (aw_get 0 0 0 10 H5.out (by kernel_rfl) (by kernel_rfl)).mono ?_
 rintro e w6 ⟨rfl, hb6⟩
 have HB6 := Aside0.mk (below_step HB5.out hb6); have H6 := Aside0.mk (H5.out.below hb6)
 clear hb6 H5 HB5
 go_wp2_with fail
 refine (aw_get 3 0 0 13 H6.out (by kernel_rfl) (by kernel_rfl)).mono ?_
 rintro e w7 ⟨rfl, hb7⟩
 have HB7 := Aside0.mk (below_step HB6.out hb7); have H7 := Aside0.mk (H6.out.below hb7)
 clear hb7 H6 HB6
 go_wp2_with fail
 refine (aw_get 1 2 0 2 H7.out (by kernel_rfl) (by kernel_rfl)).mono ?_
 rintro e w8 ⟨rfl, hb8⟩
 have HB8 := Aside0.mk (below_step HB7.out hb8); have H8 := Aside0.mk (H7.out.below hb8)
 clear hb8 H7 HB7
 go_wp2_with fail
 have hba : Below w8.heap.size w8 (w8.alloc (.cells #[.int .i64 1] 3)) := below_alloc (Below.refl _ _) _
 refine (aw_rea _ 1 (H8.out.below hba) (r1_row w8) (Nat.le_refl _)).mono ?_
 rintro e w9 ⟨v9, rfl, hr9, hb9⟩
 have HB9 := Aside0.mk (below_step (below_step HB8.out hba) hb9); have H9 := Aside0.mk ((H8.out.below hba).below hb9)
 obtain ⟨g9, c9, ev9, -⟩ := Kd.R_form hr9 (by decide)
 have hln : ([1, 2] : List Int).length = 2 := rfl
 rw [hln] at ev9
 subst ev9
 obtain ⟨ad9, e9, hc9⟩ := Kd.at_int (Kd.R_reads' hr9).2.2 1 (by decide) (by decide)
 cases e9
 have hc9' : w9.cell? ⟨g9, 1, none⟩ = some (.int .i64 2) := hc9
 clear hb9 hr9 hba H8 HB8 hc9 hln
 go_wp2_with fail
 refine (aw_near1 H9.out).mono ?_
 rintro e wa ⟨va, rfl, hra, hba⟩
 have HBa := Aside0.mk (below_step HB9.out hba); have Ha := Aside0.mk (H9.out.below hba)
 obtain ⟨ga, ca, eva, -⟩ := Kd.R_form hra (by decide)
 subst eva
 clear hra hba H9 HB9 hc9'
 go_wp2_with fail
 refine (aw_of Ha.out).mono ?_
 rintro e wb ⟨rfl, hbb⟩
 have HBb := Aside0.mk (below_step HBa.out hbb); have Hb := Aside0.mk (Ha.out.below hbb)
 clear hbb Ha HBa
 go_wp2_with fail
 refine (aw_len Hb.out).mono ?_
 rintro e wc ⟨rfl, hbc⟩
 have HBc := Aside0.mk (below_step HBb.out hbc)
 clear hbc Hb HBb
 go_wp2_with fail
 refine (heap_New.bad 40 (some ⟨wc.heap.size, 0, none⟩) 1 [⟨⟨#[]⟩, []⟩] 0 1 _ (s0_row wc) (Nat.le_refl _) aw_bad rfl).mono ?_
 rintro e wd ⟨rfl, hbd⟩
 have HBd := Aside0.mk (below_step HBc.out (below_step (below_alloc (Below.refl _ _) _) hbd))
 clear hbd HBc
 go_wp2
 go_ret
 exact ⟨rfl, HBd.out⟩
def Lens (L : List (Int × List Int)) : Prop := ∀ x ∈ L, x.2.length ≤ 1000000
theorem setO_len (L : List (Int × List Int)) (o f n : Int) : (setO L o f n).length = L.length := by
 unfold setO
 split
 ·rw [List.length_set]
 ·rfl
theorem mkL_len {S : List S43} (L : List (Int × List Int)) (nm : ByteArray) : (mkL S L nm).length ≤ L.length + 1 := by
 unfold mkL
 split <;> simp
theorem mkL_lens {S : List S43} {L : List (Int × List Int)} (hS : ∀ x ∈ S, x.f1.length ≤ 1000000) (h : Lens L) (nm : ByteArray) : Lens (mkL S L nm) := by
 unfold mkL
 split
 ·exact h
 ·intro x hx
  rcases List.mem_append.mp hx with hx | hx
  ·exact h x hx
  ·rw [List.mem_singleton] at hx
   subst hx
   show (zerosO S (atO S nm)).length ≤ 1000000
   unfold zerosO
   rw [List.length_replicate]
   unfold rd_T43
   by_cases hj : (atO S nm).toNat < S.length
   ·rw [getD_at _ _ hj]; exact hS _ (List.getElem_mem hj)
   ·rw [List.getD_eq_getElem?_getD, List.getElem?_eq_none (by omega)]; decide
/-- Another place is as it was; the same place has as many numbers. -/
theorem setO_rd (L : List (Int × List Int)) (o f n i : Int) : (rdO (setO L o f n) i).2.length = (rdO L i).2.length := by
 unfold setO
 split
 ·rename_i hz
  obtain ⟨p0, p1, p2, p3⟩ := chk_zero hz
  unfold rdO
  by_cases e : i.toNat = (o - 1).toNat
  ·rw [e, List.getD_eq_getElem?_getD, List.getElem?_set_self (by omega), Option.getD_some]
   exact List.length_set
  ·rw [List.getD_eq_getElem?_getD, List.getElem?_set_ne (by omega), ← List.getD_eq_getElem?_getD]
 ·rfl
theorem setO_lens {L : List (Int × List Int)} (h : Lens L) (o f n : Int) : Lens (setO L o f n) := by
 intro x hx
 obtain ⟨j, hj, rfl⟩ := List.mem_iff_getElem.mp hx
 have h1 := setO_rd L o f n (j : Int)
 have hj2 : j < L.length := by rw [setO_len] at hj; exact hj
 unfold rdO at h1
 rw [Int.toNat_natCast, getD_at _ _ hj, getD_at _ _ hj2] at h1
 rw [h1]
 exact h _ (List.getElem_mem hj2)
theorem setO_chk (L : List (Int × List Int)) (o f n i k : Int) : chkE (setO L o f n) i k = chkE L i k := by
 unfold chkE
 rw [setO_len, setO_rd]
/-- What was set is got. -/
theorem setO_got {L : List (Int × List Int)} {o f : Int} (n : Int) (hz : chkE L o f = 0) : getO (setO L o f n) o f = n := by
 unfold getO
 rw [if_pos (by rw [setO_chk]; exact hz)]
 obtain ⟨p0, p1, p2, p3⟩ := chk_zero hz
 unfold setO
 rw [if_pos hz]
 unfold rdO at p3 ⊢
 rw [List.getD_eq_getElem?_getD, List.getElem?_set_self (by omega), Option.getD_some]
 unfold rd
 rw [List.getD_eq_getElem?_getD, List.getElem?_set_self (by omega), Option.getD_some]
/-- Nobody else changes. -/
theorem setO_else {L : List (Int × List Int)} {o f i k : Int} (n : Int) (h : chkE L o f ≠ 0 ∨ i ≠ o ∨ k ≠ f) : getO (setO L o f n) i k = getO L i k := by
 unfold getO
 rw [setO_chk]
 by_cases hc : chkE L i k = 0
 ·rw [if_pos hc, if_pos hc]
  obtain ⟨q0, q1, q2, q3⟩ := chk_zero hc
  unfold setO
  by_cases hz : chkE L o f = 0
  ·rw [if_pos hz]
   obtain ⟨p0, p1, p2, p3⟩ := chk_zero hz
   by_cases e : i = o
   ·subst e
    have hk : k ≠ f := by
     rcases h with h | h | h
     ·exact absurd hz h
     ·exact absurd rfl h
     ·exact h
    unfold rdO at p3 q3 ⊢
    rw [List.getD_eq_getElem?_getD, List.getElem?_set_self (by omega), Option.getD_some]
    unfold rd
    rw [List.getD_eq_getElem?_getD, List.getElem?_set_ne (by omega), ← List.getD_eq_getElem?_getD]
   ·unfold rdO
    rw [List.getD_eq_getElem?_getD, List.getElem?_set_ne (by omega), ← List.getD_eq_getElem?_getD]
  ·rw [if_neg hz]
 ·rw [if_neg hc, if_neg hc]
end Go.Proofs.Ytonmlncejikbiaa.Q
namespace Go.Proofs.Ytonmlncejikbiaa.Q
open Go.RowKit Go.Proofs.YtonmlncejikbiaaW.PrintWords Go.Proofs.YtonmlncejikbiaaW.PrintLast Go.Proofs.YtonmlncejikbiaaW.PrintMore
attribute [local go_sem] max2_int min2_int max_two min_two max_three min_three max_four min_four   -- for this text's walks alone
set_option linter.unusedVariables false
set_option linter.unusedSimpArgs false
/-! ### truantlaw06_great: function 32 -/
def truantlaw06_great.l0 : Nat → List (S43) → Int → Option (Bool)
 | 0, _, _ => none
 | k + 1, x0, x3 => if x3 < (x0.length : Int) then (if 0 ≤ x3 then (if (((rd_T43 x0 x3).f1).length : Int) > 12 then (some true) else (truantlaw06_great.l0 k x0 (wrap64 (x3 + 1)))) else (none)) else (some false)
def truantlaw06_great.f (k : Nat) (l0 : List (S43)) : Option (Bool) := if (l0.length : Int) > 16 then (some true) else (truantlaw06_great.l0 k l0 0)
theorem truantlaw06_great.mono_l : ∀ k, (∀ y0 y1, LeO (truantlaw06_great.l0 k y0 y1) (truantlaw06_great.l0 (k + 1) y0 y1))
 | 0 => fun _ _ r h => by simp [truantlaw06_great.l0] at h
 | k + 1 => by
  have ih0 := truantlaw06_great.mono_l k
  ·intro y0 y1
   unfold truantlaw06_great.l0
   repeat' first
   | (with_reducible exact ih0 _ _)
   | (with_reducible exact LeO.refl _)
   | (with_reducible exact LeO.none _)
   | (with_reducible refine LeO.ite ?_ ?_)
   | (with_reducible refine LeO.bind ?_ (fun _ => ?_))
   | exact ih0 _ _
   | exact LeO.none _
   | refine LeO.ite ?_ ?_
   | refine LeO.bind ?_ (fun _ => ?_)
theorem truantlaw06_great.mono : ∀ a0 k, LeO (truantlaw06_great.f k a0) (truantlaw06_great.f (k + 1) a0) := by
 intro a0 k
 have ih0 := truantlaw06_great.mono_l k
 unfold truantlaw06_great.f
 repeat' first
   | (with_reducible exact ih0 _ _)
   | (with_reducible exact LeO.refl _)
   | (with_reducible exact LeO.none _)
   | (with_reducible refine LeO.ite ?_ ?_)
   | (with_reducible refine LeO.bind ?_ (fun _ => ?_))
   | exact ih0 _ _
   | exact LeO.none _
   | refine LeO.ite ?_ ?_
   | refine LeO.bind ?_ (fun _ => ?_)
set_option maxHeartbeats 8000000 in
set_option maxRecDepth 100000 in
theorem truantlaw06_great.calls (k : Nat) (A0 : Option Addr) (c0 : Nat) (l0 : List (S43)) (r : Bool) (w : World) (hr0 : Kd.C k43 w A0 l0.length l0) (hc0 : l0.length ≤ c0) (h : truantlaw06_great.f k l0 = some r) :
  Calls Try.prog 32 #[.slice A0 l0.length c0] w fun e w' => e = .returned (.bool r) ∧ Drawn0 w w' := by
 have HR0 := Aside0.mk hr0
 have HC0 := Aside0.mk hc0
 clear hr0 hc0
 have H : (if (l0.length : Int) > 16 then (some true) else (truantlaw06_great.l0 k l0 0)) = some r := h
 clear h
 by_cases c2 : (l0.length : Int) > 16
 ·rw [if_pos c2] at H
  have c2b0 : decide (16 < (l0.length : Int)) = true := decide_eq_true c2
  have c2b1 : decide (16 < l0.length) = true := decide_eq_true (by omega)
  clear c2
  obtain rfl := Option.some.inj H
  go_enter Try.func32, Try.ntmps32
  go_wp2
  go_ret
  exact ⟨by first | rfl | (simp; done) | (simp [*]; done), by repeat (first | exact Drawn0.refl _ | apply Drawn0.step)⟩
 ·rw [if_neg c2] at H
  have c2b0 : decide (16 < (l0.length : Int)) = false := decide_eq_false c2
  have c2b1 : decide (16 < l0.length) = false := decide_eq_false (by omega)
  clear c2
  have H' := Aside0.mk H
  clear H
  go_enter Try.func32, Try.ntmps32
  go_wp2
  go_loopg [3] k (fun kq v3 w' => ∃ (x3_1 : Int), v3 = .int .i64 x3_1 ∧ Aside0 (truantlaw06_great.l0 kq l0 x3_1 = some r) ∧ Aside0 (kq ≤ k) ∧ Drawn0 w w')
  case atStart => exact ⟨(0), (by first | rfl | (simp; done) | (simp [*]; done)), H', ⟨Nat.le_refl _⟩, by repeat (first | exact Drawn0.refl _ | apply Drawn0.step)⟩
  case round =>
   clear H'
   try clear c2
   try clear c2b0
   try clear c2b1
   try clear p2
   obtain ⟨x3_1, rfl, HA, HK1, ⟨m1, rfl⟩⟩ := hrel
   cases gk with
   | zero => exact absurd HA.out (by simp [truantlaw06_great.l0])
   | succ k1 =>
    have H := HA.out
    clear HA
    simp only [truantlaw06_great.l0] at H
    by_cases c3 : x3_1 < (l0.length : Int)
    ·rw [if_pos c3] at H
     have c3b0 : decide (x3_1 < (l0.length : Int)) = true := decide_eq_true c3
     clear c3
     by_cases c4 : 0 ≤ x3_1
     ·rw [if_pos c4] at H
      have c4b0 : decide (0 ≤ x3_1) = true := decide_eq_true c4
      clear c4
      by_cases c5 : (((rd_T43 l0 x3_1).f1).length : Int) > 12
      ·rw [if_pos c5] at H
       have c5b0 : decide (12 < (((rd_T43 l0 x3_1).f1).length : Int)) = true := decide_eq_true c5
       have c5b1 : decide (12 < ((rd_T43 l0 x3_1).f1).length) = true := decide_eq_true (by omega)
       clear c5
       obtain rfl := Option.some.inj H
       have p299 : 0 ≤ (x3_1 : Int) := of_decide_eq_true (by first | (with_reducible assumption) | assumption)
       have q299 : x3_1 < (l0.length : Int) := of_decide_eq_true (by first | (with_reducible assumption) | assumption)
       obtain ⟨ad299, A299_1, c299_1, e299, hx299_0, hx299_1, hl299_1, hi299_1⟩ := at_T43 HR0.out x3_1 p299 q299
       cases e299
       have HR299_1 := Aside0.mk hi299_1
       have HC299_1 := Aside0.mk hl299_1
       clear hi299_1 hl299_1
       replace p299 := eq_true p299
       replace q299 := eq_true q299
       go_wp2
       go_ret
       exact ⟨by first | rfl | (simp; done) | (simp [*]; done), by repeat (first | exact Drawn0.refl _ | apply Drawn0.step)⟩
      ·rw [if_neg c5] at H
       have c5b0 : decide (12 < (((rd_T43 l0 x3_1).f1).length : Int)) = false := decide_eq_false c5
       have c5b1 : decide (12 < ((rd_T43 l0 x3_1).f1).length) = false := decide_eq_false (by omega)
       clear c5
       have H' := Aside0.mk H
       clear H
       have p299 : 0 ≤ (x3_1 : Int) := of_decide_eq_true (by first | (with_reducible assumption) | assumption)
       have q299 : x3_1 < (l0.length : Int) := of_decide_eq_true (by first | (with_reducible assumption) | assumption)
       obtain ⟨ad299, A299_1, c299_1, e299, hx299_0, hx299_1, hl299_1, hi299_1⟩ := at_T43 HR0.out x3_1 p299 q299
       cases e299
       have HR299_1 := Aside0.mk hi299_1
       have HC299_1 := Aside0.mk hl299_1
       clear hi299_1 hl299_1
       replace p299 := eq_true p299
       replace q299 := eq_true q299
       go_wp2
       go_roundg k1
       case measure => have := HK1.out; omega
       case rel => exact ⟨(wrap64 (x3_1 + 1)), (by first | rfl | (simp; done) | (simp [*]; done)), H', ⟨by have := HK1.out; omega⟩, by repeat (first | exact Drawn0.refl _ | apply Drawn0.step)⟩
     ·rw [if_neg c4] at H
      exact absurd H (by simp)
    ·rw [if_neg c3] at H
     have c3b0 : decide (x3_1 < (l0.length : Int)) = false := decide_eq_false c3
     clear c3
     obtain rfl := Option.some.inj H
     go_wp2
     go_ret
     exact ⟨by first | rfl | (simp; done) | (simp [*]; done), by repeat (first | exact Drawn0.refl _ | apply Drawn0.step)⟩
end Go.Proofs.Ytonmlncejikbiaa.Q
/- HeapKeeps: by hand; its drawn region is written by wip/tool/genA.py. -/
namespace Go.Proofs.Ytonmlncejikbiaa.Q
open Go.RowKit Go.Proofs.YtonmlncejikbiaaW.PrintWords Go.Proofs.YtonmlncejikbiaaW.PrintLast Go.Proofs.YtonmlncejikbiaaW.PrintMore
set_option linter.unusedVariables false
set_option linter.unusedSimpArgs false
def okS (l : List S43) : Bool := decide (l.length ≤ 1000000) && l.all fun x => decide (x.f1.length ≤ 1000000)
theorem okS_of {l : List S43} (h : okS l = true) : l.length ≤ 1000000 ∧ ∀ x ∈ l, x.f1.length ≤ 1000000 := by
 unfold okS at h
 rw [Bool.and_eq_true, List.all_eq_true] at h
 exact ⟨of_decide_eq_true h.1, fun x hx => of_decide_eq_true (h.2 x hx)⟩
def truantlaw06_HeapKeeps.f (k : Nat) (l0 : List (S43)) (l1 : List (S58)) (a2 : Int) (a3 : Int) (a4 : Int) : Option (Bool) :=
 (truantlaw06_great.f k l0).bind fun gr => if gr = true then some true else if (l1.length : Int) > 80 then some true else (kind_Check.f k l0).bind fun p => if okS l0 = true then some true else none
def truantlaw06_HeapKeeps.T11 : Bool × List (List Nat × List Nat) := (true, [([], []), ([], []), ([], []), ([1, 2], [1, 2]), ([3], [3]), ([4], [4]), ([], []), ([], []), ([6, 7], [6, 7]), ([8], [8]), ([9], [9]), ([], []), ([], []), ([11, 12], [11, 12]), ([13], [13]), ([14], [14]), ([0, 5, 10, 15], [0, 5, 10, 15])])
def truantlaw06_HeapKeeps.B11 : List Nat := [0, 0, 0, 6, 14, 30, 0, 0, 192, 448, 960, 0, 0, 6144, 14336, 30720, 65535]
theorem truantlaw06_HeapKeeps.tab11 : rtab .any (opsOf Try.f9 11) = truantlaw06_HeapKeeps.T11 := by kernel_rfl
theorem truantlaw06_HeapKeeps.bits11 : waitsOk truantlaw06_HeapKeeps.T11.2 truantlaw06_HeapKeeps.B11 = true := by kernel_rfl
section
variable {base g : Nat} {w : World} {sv lv : Value} {S : List S43} {L : List (Int × List Int)} {sok lok : Nat → Prop}
set_option maxRecDepth 100000 in
set_option maxHeartbeats 16000000 in
theorem HeapKeeps.nil (k : Nat) (A0 : Option Addr) (c0 : Nat) (l0 : List (S43)) (A1 : Option Addr) (c1 : Nat) (l1 : List (S58)) (a2 : Int) (a3 : Int) (a4 : Int) (r1 r2 : Int) (w : World) (hr0 : Kd.C k43 w A0 l0.length l0) (hc0 : l0.length ≤ c0) (hr1 : Kd.C k58 w A1 l1.length l1) (hc1 : l1.length ≤ c1)
  (hg : truantlaw06_great.f k l0 = some false) (hlen : ¬ (l1.length : Int) > 80) (hck : kind_Check.f k l0 = some (r1, r2)) (hne : (r2 != 0) = true) :
  Calls Try.prog 9 #[.slice A0 l0.length c0, .slice A1 l1.length c1, .int .i64 a2, .int .i64 a3, .int .i64 a4] w fun e w' => e = .returned (.bool true) ∧ Below w.heap.size w w' := by
 have HR0 := Aside0.mk hr0; have HC0 := Aside0.mk hc0; have HR1 := Aside0.mk hr1; have HGR := Aside0.mk hg; have HCK := Aside0.mk hck; have HNE := Aside0.mk hne
 have hm1 := Kd.C_max hr1
 have hdl : decide ((l1.length : Int) > 80) = false := decide_eq_false hlen
 clear hr0 hc0 hr1 hg hck hne
 go_enter Try.func9, Try.ntmps9
 go_wp2_with fail
 refine (truantlaw06_awake.calls true w rfl).mono ?_
 rintro e w1 ⟨rfl, hb1⟩
 have HB1 := Aside0.mk hb1; clear hb1
 go_wp2_with fail
 refine (truantlaw06_great.calls k A0 c0 l0 false w1 (Kd.C_below HR0.out HB1.out) HC0.out HGR.out).mono ?_
 rintro e w2 ⟨rfl, hd2⟩
 have HB2 := Aside0.mk (below_step HB1.out hd2.below); clear hd2 HB1
 go_wp2_with fail
 refine (heap_New.bad k A0 c0 l0 r1 r2 w2 (Kd.C_below HR0.out HB2.out) HC0.out HCK.out HNE.out).mono ?_
 rintro e w3 ⟨rfl, hb3⟩
 have HB3 := Aside0.mk (below_step HB2.out hb3); clear hb3 HB2
 go_wp2_with fail
 go_loopw [12] (fun v12 wr => ∃ i : Nat, v12 = .int .i64 i ∧ i ≤ l1.length ∧ Aside0 (Below w.heap.size w wr)) (fun v12 _ => l1.length - (intOf v12).toNat)
 case atStart => exact ⟨0, rfl, Nat.zero_le _, HB3⟩
 case round =>
  clear HB3
  obtain ⟨i, rfl, hi, HB⟩ := hrel
  by_cases hlt : i < l1.length
  ·obtain ⟨ad, e1, hx0, hx1, hx2, hx3, hx4⟩ := at_T58 (Kd.C_below HR1.out HB.out) (i : Int) (by omega) (by omega)
   subst e1
   simp only [Int.toNat_natCast] at hx0 hx1 hx2 hx3 hx4
   obtain ⟨x, ex⟩ : ∃ x, x = rd_T58 l1 (i : Int) := ⟨_, rfl⟩
   rw [← ex] at hx0 hx1 hx2 hx3 hx4
   have hlti : (i : Int) < (l1.length : Int) := by omega
   clear ex
   by_cases h2 : x.f0 ≤ 2
   ·clear hx2 hx3 hx4
    go_wp2_with fail
    refine (heap_Make.nil x.f1 wr).mono ?_
    rintro e w4 ⟨rfl, hb4⟩
    have HB4 := Aside0.mk (below_step HB.out hb4); clear hb4 HB hx0 hx1
    go_wp2
    go_roundw
    case rel => exact ⟨i + 1, by go_num, by omega, HB4⟩
    case measure => simp [intOf]; omega
   ·go_upto_region 11 with (fail)
    have HX2 := Aside0.mk (pw_cell_below (below_drew1 (Below.refl _ _)) hx2); have HX3 := Aside0.mk (pw_cell_below (below_drew1 (Below.refl _ _)) hx3); have HX4 := Aside0.mk (pw_cell_below (below_drew1 (Below.refl _ _)) hx4)
    have HB2 := Aside0.mk (below_drew1 HB.out)
    clear hx0 hx1 hx2 hx3 hx4 HB
    refine start_ (n := 17) (S := fun w' => w'.cell? ⟨(ad.add (i * 5)).block, (ad.add (i * 5)).off + 2, none⟩ = some (.int .i64 x.f2) ∧ w'.cell? ⟨(ad.add (i * 5)).block, (ad.add (i * 5)).off + 3, none⟩ = some (.int .i64 x.f3) ∧ w'.cell? ⟨(ad.add (i * 5)).block, (ad.add (i * 5)).off + 4, none⟩ = some (.int .i64 x.f4)) (ds := [16]) (tf 0 17) (by kernel_rfl) rfl rfl ⟨HX2.out, HX3.out, HX4.out⟩ (fun hHeld => ?_)
    refine with_tabW truantlaw06_HeapKeeps.tab11 truantlaw06_HeapKeeps.bits11 (fun HT_ HW_ => ?_)
    generalize wr.drew = w3a at HB2 HX2 HX3 HX4 hHeld ⊢
    refine pure_ (i := 0) (N := some 51) (v := ?_) (a' := ?_) (tf 1 16) rfl rfl (any_of HT_.out (by kernel_rfl)) (fun _ _ _ h => h) (Or.inl ⟨by rfl, ?_⟩) ?_ ?_
    rotate_left
    ·intro w'
     go_simp
     with_reducible rfl
    rotate_left
    ·simp only [Act.put, List.setIfInBounds_toArray, List.set_cons_zero, List.set_cons_succ, i64_w, i32_w]
     rfl
    refine pure_ (i := 1) (N := some 52) (v := ?_) (a' := ?_) (tf 2 15) rfl rfl (any_of HT_.out (by kernel_rfl)) (fun _ _ _ h => h) (Or.inl ⟨by rfl, ?_⟩) ?_ ?_
    rotate_left
    ·intro w'
     go_simp
     with_reducible rfl
    rotate_left
    ·simp only [Act.put, List.setIfInBounds_toArray, List.set_cons_zero, List.set_cons_succ, i64_w, i32_w]
     rfl
    refine pure_ (i := 2) (N := some 53) (v := ?_) (a' := ?_) (tf 3 14) rfl rfl (any_of HT_.out (by kernel_rfl)) (fun _ _ _ h => h) (Or.inl ⟨by rfl, ?_⟩) ?_ ?_
    rotate_left
    ·intro w'
     go_simp
     with_reducible rfl
    rotate_left
    ·simp only [Act.put, List.setIfInBounds_toArray, List.set_cons_zero, List.set_cons_succ, i64_w, i32_w]
     rfl
    refine pure_ (i := 3) (N := some 54) (v := ?_) (a' := ?_) (tf 4 13) rfl rfl (any_of HT_.out (by kernel_rfl)) (fun _ _ _ h => h) (Or.inl ⟨by rfl, ?_⟩) ?_ ?_
    rotate_left
    ·intro w'
     go_simp
     with_reducible rfl
    rotate_left
    ·simp only [Act.put, List.setIfInBounds_toArray, List.set_cons_zero, List.set_cons_succ, i64_w, i32_w]
     rfl
    refine pure_ (i := 4) (N := some 55) (v := ?_) (a' := ?_) (tf 5 12) rfl rfl (any_of HT_.out (by kernel_rfl)) (fun _ _ _ h => h) (Or.inl ⟨by rfl, ?_⟩) ?_ ?_
    rotate_left
    ·intro w'
     go_simp
     with_reducible rfl
    rotate_left
    ·simp only [Act.put, List.setIfInBounds_toArray, List.set_cons_zero, List.set_cons_succ, i64_w, i32_w]
     rfl
    refine pure_ (i := 6) (N := some 57) (v := ?_) (a' := ?_) #[true, true, true, true, true, false, true, false, false, false, false, false, false, false, false, false, false] rfl rfl (any_of HT_.out (by kernel_rfl)) (fun _ _ _ h => h) (Or.inl ⟨by rfl, ?_⟩) ?_ ?_
    rotate_left
    ·intro w'
     go_simp
     with_reducible rfl
    rotate_left
    ·simp only [Act.put, List.setIfInBounds_toArray, List.set_cons_zero, List.set_cons_succ, i64_w, i32_w]
     rfl
    refine pure_ (i := 7) (N := some 58) (v := ?_) (a' := ?_) #[true, true, true, true, true, false, true, true, false, false, false, false, false, false, false, false, false] rfl rfl (any_of HT_.out (by kernel_rfl)) (fun _ _ _ h => h) (Or.inl ⟨by rfl, ?_⟩) ?_ ?_
    rotate_left
    ·intro w'
     go_simp
     with_reducible rfl
    rotate_left
    ·simp only [Act.put, List.setIfInBounds_toArray, List.set_cons_zero, List.set_cons_succ, i64_w, i32_w]
     rfl
    refine pure_ (i := 8) (N := some 59) (v := ?_) (a' := ?_) #[true, true, true, true, true, false, true, true, true, false, false, false, false, false, false, false, false] rfl rfl (any_of HT_.out (by kernel_rfl)) (fun _ _ _ h => h) (Or.inl ⟨by rfl, ?_⟩) ?_ ?_
    rotate_left
    ·intro w'
     go_simp
     with_reducible rfl
    rotate_left
    ·simp only [Act.put, List.setIfInBounds_toArray, List.set_cons_zero, List.set_cons_succ, i64_w, i32_w]
     rfl
    refine pure_ (i := 9) (N := some 60) (v := ?_) (a' := ?_) #[true, true, true, true, true, false, true, true, true, true, false, false, false, false, false, false, false] rfl rfl (any_of HT_.out (by kernel_rfl)) (fun _ _ _ h => h) (Or.inl ⟨by rfl, ?_⟩) ?_ ?_
    rotate_left
    ·intro w'
     go_simp
     with_reducible rfl
    rotate_left
    ·simp only [Act.put, List.setIfInBounds_toArray, List.set_cons_zero, List.set_cons_succ, i64_w, i32_w]
     rfl
    refine pure_ (i := 11) (N := some 62) (v := ?_) (a' := ?_) #[true, true, true, true, true, false, true, true, true, true, false, true, false, false, false, false, false] rfl rfl (any_of HT_.out (by kernel_rfl)) (fun _ _ _ h => h) (Or.inl ⟨by rfl, ?_⟩) ?_ ?_
    rotate_left
    ·intro w'
     go_simp
     with_reducible rfl
    rotate_left
    ·simp only [Act.put, List.setIfInBounds_toArray, List.set_cons_zero, List.set_cons_succ, i64_w, i32_w]
     rfl
    refine pure_ (i := 12) (N := some 63) (v := ?_) (a' := ?_) #[true, true, true, true, true, false, true, true, true, true, false, true, true, false, false, false, false] rfl rfl (any_of HT_.out (by kernel_rfl)) (fun _ _ _ h => h) (Or.inl ⟨by rfl, ?_⟩) ?_ ?_
    rotate_left
    ·intro w'
     go_simp
     with_reducible rfl
    rotate_left
    ·simp only [Act.put, List.setIfInBounds_toArray, List.set_cons_zero, List.set_cons_succ, i64_w, i32_w]
     rfl
    refine pure_ (i := 13) (N := some 64) (v := ?_) (a' := ?_) #[true, true, true, true, true, false, true, true, true, true, false, true, true, true, false, false, false] rfl rfl (any_of HT_.out (by kernel_rfl)) (fun _ _ _ h => h) (Or.inl ⟨by rfl, ?_⟩) ?_ ?_
    rotate_left
    ·intro w'
     go_simp
     with_reducible rfl
    rotate_left
    ·simp only [Act.put, List.setIfInBounds_toArray, List.set_cons_zero, List.set_cons_succ, i64_w, i32_w]
     rfl
    refine pure_ (i := 14) (N := some 65) (v := ?_) (a' := ?_) #[true, true, true, true, true, false, true, true, true, true, false, true, true, true, true, false, false] rfl rfl (any_of HT_.out (by kernel_rfl)) (fun _ _ _ h => h) (Or.inl ⟨by rfl, ?_⟩) ?_ ?_
    rotate_left
    ·intro w'
     go_simp
     with_reducible rfl
    rotate_left
    ·simp only [Act.put, List.setIfInBounds_toArray, List.set_cons_zero, List.set_cons_succ, i64_w, i32_w]
     rfl
    refine take_ (i := 5) (N := some 56) (v := ?_) (a' := ?_) #[true, true, true, true, true, true, true, true, true, true, false, true, true, true, true, false, false] rfl rfl (take_ofW HT_.out HW_.out (by kernel_rfl)) (fun _ _ _ h => h) (Or.inl ⟨by rfl, ?_⟩) hHeld ?_ ?_
    rotate_left
    ·rintro w' ⟨s0, s1, s2⟩
     go_simp
     with_reducible rfl
    rotate_left
    ·simp only [Act.put, List.setIfInBounds_toArray, List.set_cons_zero, List.set_cons_succ, i64_w, i32_w]
     rfl
    refine take_ (i := 10) (N := some 61) (v := ?_) (a' := ?_) (tf 15 2) rfl rfl (take_ofW HT_.out HW_.out (by kernel_rfl)) (fun _ _ _ h => h) (Or.inl ⟨by rfl, ?_⟩) hHeld ?_ ?_
    rotate_left
    ·rintro w' ⟨s0, s1, s2⟩
     go_simp
     with_reducible rfl
    rotate_left
    ·simp only [Act.put, List.setIfInBounds_toArray, List.set_cons_zero, List.set_cons_succ, i64_w, i32_w]
     rfl
    refine take_ (i := 15) (N := some 66) (v := ?_) (a' := ?_) (tf 16 1) rfl rfl (take_ofW HT_.out HW_.out (by kernel_rfl)) (fun _ _ _ h => h) (Or.inl ⟨by rfl, ?_⟩) hHeld ?_ ?_
    rotate_left
    ·rintro w' ⟨s0, s1, s2⟩
     go_simp
     with_reducible rfl
    rotate_left
    ·simp only [Act.put, List.setIfInBounds_toArray, List.set_cons_zero, List.set_cons_succ, i64_w, i32_w]
     rfl
    refine last_ (i := 16) (N := some 67) (tf 17 0) rfl rfl (one_of HT_.out (by kernel_rfl)) (by decide) (fun K hK => ?_)
    refine goes_ Try.func35 (by kernel_rfl) rfl #[.pointer none, .int .i64 x.f2, .int .i64 x.f3, .int .i64 x.f4] (by rfl) rfl rfl (by simp only [List.map_toArray, List.map_cons, List.map_nil]; rfl) ?_
    refine (heap_Set.nil x.f2 x.f3 x.f4 w3a).mono ?_
    rintro e w9 ⟨rfl, hb9⟩
    refine ⟨_, rfl, ?_⟩
    have HB9 := Aside0.mk (below_step HB2.out hb9)
    clear hb9
    refine hK.out _ _ ?_
    clear hK K
    refine norm_ (a' := ?_) ?_ ?_
    rotate_left
    ·show Act.put _ (some 67) _ = _
     simp only [Act.put, List.setIfInBounds_toArray, List.set_cons_zero, List.set_cons_succ, i64_w, i32_w]
     rfl
    refine done_ (done_of HT_.out (by kernel_rfl)) ?_
    go_wp2
    go_roundw
    case rel => exact ⟨i + 1, by go_num, by omega, HB9⟩
    case measure => simp [intOf]; omega
  ·go_wp2_with fail
   refine (heap_Clone.nil wr).mono ?_
   rintro e w4 ⟨rfl, hb4⟩
   have HB4 := Aside0.mk (below_step HB.out hb4); clear hb4 HB
   go_wp2_with fail
   refine (heap_Set.nil a2 a3 a4 w4).mono ?_
   rintro e w5 ⟨rfl, hb5⟩
   have HB5 := Aside0.mk (below_step HB4.out hb5); clear hb5 HB4
   go_wp2_with fail
   go_loopw [15] (fun v15 wr => v15 = .int .i64 1 ∧ Aside0 (Below w.heap.size w wr)) (fun _ _ => 0)
   case atStart => exact ⟨rfl, HB5⟩
   case round =>
    clear HB5
    obtain ⟨rfl, HBr⟩ := hrel
    go_wp2_with fail
    refine (heap_Len.nil wr).mono ?_
    rintro e w6 ⟨rfl, hb6⟩
    have HB6 := Aside0.mk (below_step HBr.out hb6); clear hb6 HBr
    go_wp2_with fail
    refine (heap_Len.nil w6).mono ?_
    rintro e w7 ⟨rfl, hb7⟩
    have HB7 := Aside0.mk (below_step HB6.out hb7); clear hb7 HB6
    go_wp2_with fail
    refine (heap_Len.nil w7).mono ?_
    rintro e w8 ⟨rfl, hb8⟩
    have HB8 := Aside0.mk (below_step HB7.out hb8); clear hb8 HB7
    go_wp2
    go_ret
    exact ⟨rfl, HB8.out⟩
set_option maxRecDepth 100000 in
set_option maxHeartbeats 16000000 in
theorem HeapKeeps.there (k : Nat) (A0 : Option Addr) (c0 : Nat) (l0 : List (S43)) (A1 : Option Addr) (c1 : Nat) (l1 : List (S58)) (a2 : Int) (a3 : Int) (a4 : Int) (r1 : Int) (w : World) (hr0 : Kd.C k43 w A0 l0.length l0) (hc0 : l0.length ≤ c0) (hr1 : Kd.C k58 w A1 l1.length l1) (hc1 : l1.length ≤ c1)
  (hg : truantlaw06_great.f k l0 = some false) (hlen : ¬ (l1.length : Int) > 80) (hck : kind_Check.f k l0 = some (r1, 0)) (hok : okS l0 = true) :
  Calls Try.prog 9 #[.slice A0 l0.length c0, .slice A1 l1.length c1, .int .i64 a2, .int .i64 a3, .int .i64 a4] w fun e w' => e = .returned (.bool true) ∧ Below w.heap.size w w' := by
 obtain ⟨hs1, hs2⟩ := okS_of hok
 have HS2 := Aside0.mk hs2
 have HR0 := Aside0.mk hr0; have HC0 := Aside0.mk hc0; have HR1 := Aside0.mk hr1; have HGR := Aside0.mk hg; have HCK := Aside0.mk hck; have HS1 := Aside0.mk hs1; have HLN := Aside0.mk hlen
 have hm1 := Kd.C_max hr1
 have hdl : decide ((l1.length : Int) > 80) = false := decide_eq_false hlen
 clear hr0 hc0 hr1 hg hck hok hs1 hs2 hlen
 go_enter Try.func9, Try.ntmps9
 go_wp2_with fail
 refine (truantlaw06_awake.calls true w rfl).mono ?_
 rintro e w1 ⟨rfl, hb1⟩
 have HB1 := Aside0.mk hb1; clear hb1
 go_wp2_with fail
 refine (truantlaw06_great.calls k A0 c0 l0 false w1 (Kd.C_below HR0.out HB1.out) HC0.out HGR.out).mono ?_
 rintro e w2 ⟨rfl, hd2⟩
 have HB2 := Aside0.mk (below_step HB1.out hd2.below); clear hd2 HB1
 go_wp2_with fail
 refine (heap_New.calls k A0 c0 l0 r1 w2 (Kd.C_below HR0.out HB2.out) HC0.out HCK.out HS1.out HS2.out).mono ?_
 rintro e w3 ⟨g, sv, sok, rfl, hp3, hb3, _⟩
 have HB3 := Aside0.mk (below_step HB2.out hb3); have HW := Aside0.mk HB2.out.size; have H3 := Aside0.mk hp3
 clear hb3 hp3 HB2
 generalize w2.heap.size = base at H3 HW
 go_wp2_with fail
 go_loopw [12] (fun v12 wr => ∃ (i : Nat) (lv : Value) (L : List (Int × List Int)) (lok : Nat → Prop), v12 = .int .i64 i ∧ i ≤ l1.length ∧ Aside0 (L.length ≤ i ∧ Lens L) ∧ Aside0 (Below w.heap.size w wr) ∧ Aside0 (HP wr base g sv lv l0 L sok lok)) (fun v12 _ => l1.length - (intOf v12).toNat)
 case atStart => exact ⟨0, _, [], _, rfl, Nat.zero_le _, ⟨Nat.le_refl _, fun x hx => by cases hx⟩, HB3, H3⟩
 case round =>
  clear HB3 H3
  obtain ⟨i, lv, L, lok, rfl, hi, HL, HB, H⟩ := hrel
  by_cases hlt : i < l1.length
  ·obtain ⟨ad, e1, hx0, hx1, hx2, hx3, hx4⟩ := at_T58 (Kd.C_below HR1.out HB.out) (i : Int) (by omega) (by omega)
   subst e1
   simp only [Int.toNat_natCast] at hx0 hx1 hx2 hx3 hx4
   obtain ⟨x, ex⟩ : ∃ x, x = rd_T58 l1 (i : Int) := ⟨_, rfl⟩
   rw [← ex] at hx0 hx1 hx2 hx3 hx4
   have hlti : (i : Int) < (l1.length : Int) := by omega
   have hil : i ≤ 80 := by have := HLN.out; omega
   clear ex
   by_cases h2 : x.f0 ≤ 2
   ·clear hx2 hx3 hx4
    go_wp2_with fail
    refine (heap_Make.calls x.f1 H.out (by have := HL.out.1; omega) HS2.out).mono ?_
    rintro e w4 ⟨rfl, lv4, lok4, hp4, _, _, hb4⟩
    have HB4 := Aside0.mk (HB.out.trans (hb4.mono HW.out)); have H4 := Aside0.mk hp4
    have HL4 : Aside0 ((mkL l0 L x.f1).length ≤ i + 1 ∧ Lens (mkL l0 L x.f1)) := ⟨by have := mkL_len (S := l0) L x.f1; have := HL.out.1; omega, mkL_lens HS2.out HL.out.2 x.f1⟩
    clear hb4 hp4 HB H HL hx0 hx1
    go_wp2
    go_roundw
    case rel => exact ⟨i + 1, lv4, _, lok4, by go_num, by omega, HL4, HB4, H4⟩
    case measure => simp [intOf]; omega
   ·go_upto_region 11 with (fail)
    have HX2 := Aside0.mk (pw_cell_below (below_drew1 (Below.refl _ _)) hx2); have HX3 := Aside0.mk (pw_cell_below (below_drew1 (Below.refl _ _)) hx3); have HX4 := Aside0.mk (pw_cell_below (below_drew1 (Below.refl _ _)) hx4)
    have HB2 := Aside0.mk (below_drew1 HB.out)
    have H2 := Aside0.mk (H.out.below (below_drew1 (Below.refl _ _)))
    clear hx0 hx1 hx2 hx3 hx4 HB H
    refine start_ (n := 17) (S := fun w' => w'.cell? ⟨(ad.add (i * 5)).block, (ad.add (i * 5)).off + 2, none⟩ = some (.int .i64 x.f2) ∧ w'.cell? ⟨(ad.add (i * 5)).block, (ad.add (i * 5)).off + 3, none⟩ = some (.int .i64 x.f3) ∧ w'.cell? ⟨(ad.add (i * 5)).block, (ad.add (i * 5)).off + 4, none⟩ = some (.int .i64 x.f4)) (ds := [16]) (tf 0 17) (by kernel_rfl) rfl rfl ⟨HX2.out, HX3.out, HX4.out⟩ (fun hHeld => ?_)
    refine with_tabW truantlaw06_HeapKeeps.tab11 truantlaw06_HeapKeeps.bits11 (fun HT_ HW_ => ?_)
    generalize wr.drew = w3a at HB2 HX2 HX3 HX4 H2 hHeld ⊢
    refine pure_ (i := 0) (N := some 51) (v := ?_) (a' := ?_) (tf 1 16) rfl rfl (any_of HT_.out (by kernel_rfl)) (fun _ _ _ h => h) (Or.inl ⟨by rfl, ?_⟩) ?_ ?_
    rotate_left
    ·intro w'
     go_simp
     with_reducible rfl
    rotate_left
    ·simp only [Act.put, List.setIfInBounds_toArray, List.set_cons_zero, List.set_cons_succ, i64_w, i32_w]
     rfl
    refine pure_ (i := 1) (N := some 52) (v := ?_) (a' := ?_) (tf 2 15) rfl rfl (any_of HT_.out (by kernel_rfl)) (fun _ _ _ h => h) (Or.inl ⟨by rfl, ?_⟩) ?_ ?_
    rotate_left
    ·intro w'
     go_simp
     with_reducible rfl
    rotate_left
    ·simp only [Act.put, List.setIfInBounds_toArray, List.set_cons_zero, List.set_cons_succ, i64_w, i32_w]
     rfl
    refine pure_ (i := 2) (N := some 53) (v := ?_) (a' := ?_) (tf 3 14) rfl rfl (any_of HT_.out (by kernel_rfl)) (fun _ _ _ h => h) (Or.inl ⟨by rfl, ?_⟩) ?_ ?_
    rotate_left
    ·intro w'
     go_simp
     with_reducible rfl
    rotate_left
    ·simp only [Act.put, List.setIfInBounds_toArray, List.set_cons_zero, List.set_cons_succ, i64_w, i32_w]
     rfl
    refine pure_ (i := 3) (N := some 54) (v := ?_) (a' := ?_) (tf 4 13) rfl rfl (any_of HT_.out (by kernel_rfl)) (fun _ _ _ h => h) (Or.inl ⟨by rfl, ?_⟩) ?_ ?_
    rotate_left
    ·intro w'
     go_simp
     with_reducible rfl
    rotate_left
    ·simp only [Act.put, List.setIfInBounds_toArray, List.set_cons_zero, List.set_cons_succ, i64_w, i32_w]
     rfl
    refine pure_ (i := 4) (N := some 55) (v := ?_) (a' := ?_) (tf 5 12) rfl rfl (any_of HT_.out (by kernel_rfl)) (fun _ _ _ h => h) (Or.inl ⟨by rfl, ?_⟩) ?_ ?_
    rotate_left
    ·intro w'
     go_simp
     with_reducible rfl
    rotate_left
    ·simp only [Act.put, List.setIfInBounds_toArray, List.set_cons_zero, List.set_cons_succ, i64_w, i32_w]
     rfl
    refine pure_ (i := 6) (N := some 57) (v := ?_) (a' := ?_) #[true, true, true, true, true, false, true, false, false, false, false, false, false, false, false, false, false] rfl rfl (any_of HT_.out (by kernel_rfl)) (fun _ _ _ h => h) (Or.inl ⟨by rfl, ?_⟩) ?_ ?_
    rotate_left
    ·intro w'
     go_simp
     with_reducible rfl
    rotate_left
    ·simp only [Act.put, List.setIfInBounds_toArray, List.set_cons_zero, List.set_cons_succ, i64_w, i32_w]
     rfl
    refine pure_ (i := 7) (N := some 58) (v := ?_) (a' := ?_) #[true, true, true, true, true, false, true, true, false, false, false, false, false, false, false, false, false] rfl rfl (any_of HT_.out (by kernel_rfl)) (fun _ _ _ h => h) (Or.inl ⟨by rfl, ?_⟩) ?_ ?_
    rotate_left
    ·intro w'
     go_simp
     with_reducible rfl
    rotate_left
    ·simp only [Act.put, List.setIfInBounds_toArray, List.set_cons_zero, List.set_cons_succ, i64_w, i32_w]
     rfl
    refine pure_ (i := 8) (N := some 59) (v := ?_) (a' := ?_) #[true, true, true, true, true, false, true, true, true, false, false, false, false, false, false, false, false] rfl rfl (any_of HT_.out (by kernel_rfl)) (fun _ _ _ h => h) (Or.inl ⟨by rfl, ?_⟩) ?_ ?_
    rotate_left
    ·intro w'
     go_simp
     with_reducible rfl
    rotate_left
    ·simp only [Act.put, List.setIfInBounds_toArray, List.set_cons_zero, List.set_cons_succ, i64_w, i32_w]
     rfl
    refine pure_ (i := 9) (N := some 60) (v := ?_) (a' := ?_) #[true, true, true, true, true, false, true, true, true, true, false, false, false, false, false, false, false] rfl rfl (any_of HT_.out (by kernel_rfl)) (fun _ _ _ h => h) (Or.inl ⟨by rfl, ?_⟩) ?_ ?_
    rotate_left
    ·intro w'
     go_simp
     with_reducible rfl
    rotate_left
    ·simp only [Act.put, List.setIfInBounds_toArray, List.set_cons_zero, List.set_cons_succ, i64_w, i32_w]
     rfl
    refine pure_ (i := 11) (N := some 62) (v := ?_) (a' := ?_) #[true, true, true, true, true, false, true, true, true, true, false, true, false, false, false, false, false] rfl rfl (any_of HT_.out (by kernel_rfl)) (fun _ _ _ h => h) (Or.inl ⟨by rfl, ?_⟩) ?_ ?_
    rotate_left
    ·intro w'
     go_simp
     with_reducible rfl
    rotate_left
    ·simp only [Act.put, List.setIfInBounds_toArray, List.set_cons_zero, List.set_cons_succ, i64_w, i32_w]
     rfl
    refine pure_ (i := 12) (N := some 63) (v := ?_) (a' := ?_) #[true, true, true, true, true, false, true, true, true, true, false, true, true, false, false, false, false] rfl rfl (any_of HT_.out (by kernel_rfl)) (fun _ _ _ h => h) (Or.inl ⟨by rfl, ?_⟩) ?_ ?_
    rotate_left
    ·intro w'
     go_simp
     with_reducible rfl
    rotate_left
    ·simp only [Act.put, List.setIfInBounds_toArray, List.set_cons_zero, List.set_cons_succ, i64_w, i32_w]
     rfl
    refine pure_ (i := 13) (N := some 64) (v := ?_) (a' := ?_) #[true, true, true, true, true, false, true, true, true, true, false, true, true, true, false, false, false] rfl rfl (any_of HT_.out (by kernel_rfl)) (fun _ _ _ h => h) (Or.inl ⟨by rfl, ?_⟩) ?_ ?_
    rotate_left
    ·intro w'
     go_simp
     with_reducible rfl
    rotate_left
    ·simp only [Act.put, List.setIfInBounds_toArray, List.set_cons_zero, List.set_cons_succ, i64_w, i32_w]
     rfl
    refine pure_ (i := 14) (N := some 65) (v := ?_) (a' := ?_) #[true, true, true, true, true, false, true, true, true, true, false, true, true, true, true, false, false] rfl rfl (any_of HT_.out (by kernel_rfl)) (fun _ _ _ h => h) (Or.inl ⟨by rfl, ?_⟩) ?_ ?_
    rotate_left
    ·intro w'
     go_simp
     with_reducible rfl
    rotate_left
    ·simp only [Act.put, List.setIfInBounds_toArray, List.set_cons_zero, List.set_cons_succ, i64_w, i32_w]
     rfl
    refine take_ (i := 5) (N := some 56) (v := ?_) (a' := ?_) #[true, true, true, true, true, true, true, true, true, true, false, true, true, true, true, false, false] rfl rfl (take_ofW HT_.out HW_.out (by kernel_rfl)) (fun _ _ _ h => h) (Or.inl ⟨by rfl, ?_⟩) hHeld ?_ ?_
    rotate_left
    ·rintro w' ⟨s0, s1, s2⟩
     go_simp
     with_reducible rfl
    rotate_left
    ·simp only [Act.put, List.setIfInBounds_toArray, List.set_cons_zero, List.set_cons_succ, i64_w, i32_w]
     rfl
    refine take_ (i := 10) (N := some 61) (v := ?_) (a' := ?_) (tf 15 2) rfl rfl (take_ofW HT_.out HW_.out (by kernel_rfl)) (fun _ _ _ h => h) (Or.inl ⟨by rfl, ?_⟩) hHeld ?_ ?_
    rotate_left
    ·rintro w' ⟨s0, s1, s2⟩
     go_simp
     with_reducible rfl
    rotate_left
    ·simp only [Act.put, List.setIfInBounds_toArray, List.set_cons_zero, List.set_cons_succ, i64_w, i32_w]
     rfl
    refine take_ (i := 15) (N := some 66) (v := ?_) (a' := ?_) (tf 16 1) rfl rfl (take_ofW HT_.out HW_.out (by kernel_rfl)) (fun _ _ _ h => h) (Or.inl ⟨by rfl, ?_⟩) hHeld ?_ ?_
    rotate_left
    ·rintro w' ⟨s0, s1, s2⟩
     go_simp
     with_reducible rfl
    rotate_left
    ·simp only [Act.put, List.setIfInBounds_toArray, List.set_cons_zero, List.set_cons_succ, i64_w, i32_w]
     rfl
    refine last_ (i := 16) (N := some 67) (tf 17 0) rfl rfl (one_of HT_.out (by kernel_rfl)) (by decide) (fun K hK => ?_)
    refine goes_ Try.func35 (by kernel_rfl) rfl #[ptr g, .int .i64 x.f2, .int .i64 x.f3, .int .i64 x.f4] (by rfl) rfl rfl (by simp only [List.map_toArray, List.map_cons, List.map_nil]; rfl) ?_
    refine (heap_Set.calls x.f2 x.f3 x.f4 H2.out).mono ?_
    rintro e w9 ⟨rfl, hp9, _, hb9⟩
    refine ⟨_, rfl, ?_⟩
    have HB9 := Aside0.mk (HB2.out.trans (hb9.mono HW.out))
    have H9 := Aside0.mk hp9
    clear hb9 hp9
    refine hK.out _ _ ?_
    clear hK K
    refine norm_ (a' := ?_) ?_ ?_
    rotate_left
    ·show Act.put _ (some 67) _ = _
     simp only [Act.put, List.setIfInBounds_toArray, List.set_cons_zero, List.set_cons_succ, i64_w, i32_w]
     rfl
    refine done_ (done_of HT_.out (by kernel_rfl)) ?_
    have HL4 : Aside0 ((setO L x.f2 x.f3 x.f4).length ≤ i + 1 ∧ Lens (setO L x.f2 x.f3 x.f4)) := ⟨by rw [setO_len]; have := HL.out.1; omega, setO_lens HL.out.2 _ _ _⟩
    go_wp2
    go_roundw
    case rel => exact ⟨i + 1, lv, _, lok, by go_num, by omega, HL4, HB9, H9⟩
    case measure => simp [intOf]; omega
  ·have hlm : L.length ≤ 80 := by have := HL.out.1; have := HLN.out; omega
   have HLM := Aside0.mk hlm; clear hlm
   go_wp2_with fail
   refine (heap_Clone.calls H.out (by have := HLM.out; omega) HL.out.2).mono ?_
   rintro e w4 ⟨g2, lv2, lok2, rfl, hp4, hb4⟩
   have HB4 := Aside0.mk (below_step HB.out hb4)
   have H4 := Aside0.mk (H.out.below hb4)
   have HP4 := Aside0.mk hp4
   have HLK : Aside0 (∀ k, lok k → k < wr.heap.size) := ⟨fun k hk => (H.out.lap k hk).2.2⟩
   clear hb4 hp4 HB H
   go_wp2_with fail
   refine (heap_Set.calls a2 a3 a4 H4.out).mono ?_
   rintro e w5 ⟨rfl, hp5, hk5, hb5⟩
   have HB5 := Aside0.mk (HB4.out.trans (hb5.mono HW.out))
   have H5 := Aside0.mk hp5
   have HP5 := Aside0.mk (HP4.out.kept hk5 (fun h_ => by have := HLK.out _ h_; have := HP4.out.low; omega) (fun k hk h_ => (H4.out.sap k hk).2.1 h_) (fun k hk h_ => by have := HLK.out _ h_; have := (HP4.out.lap k hk).2.1; omega))
   clear hp5 hk5 hb5 HB4 H4 HP4 HLK
   obtain ⟨ec, hec⟩ : ∃ ec, ec = chkE L a2 a3 := ⟨_, rfl⟩
   rw [← hec]
   have HEC := Aside0.mk hec; clear hec
   obtain ⟨L', hL'⟩ : ∃ L', L' = setO L a2 a3 a4 := ⟨_, rfl⟩
   rw [← hL'] at H5
   have HLp := Aside0.mk hL'; clear hL'
   generalize wr.heap.size = base2 at HP5
   go_wp2_with fail
   go_loopw [15, 16, 17, 18, 19, 20] (fun v15 _ _ _ _ _ wr => ∃ i : Nat, v15 = .int .i64 i ∧ 1 ≤ i ∧ i ≤ L.length + 1 ∧ Aside0 (Below w.heap.size w wr) ∧ Aside0 (HP wr base g sv lv l0 L' sok lok) ∧ Aside0 (HP wr base2 g2 sv lv2 l0 L sok lok2)) (fun v15 _ _ _ _ _ _ => L.length + 1 - (intOf v15).toNat)
   case atStart => exact ⟨1, rfl, Nat.le_refl _, by omega, HB5, H5, HP5⟩
   case round =>
    clear HB5 H5 HP5
    obtain ⟨i, rfl, hi1, hi2, HBr, Hr, HPr⟩ := hrel
    go_wp2_with fail
    refine (heap_Len.calls HPr.out).mono ?_
    rintro e w6 ⟨rfl, hb6⟩
    have HB6 := Aside0.mk (below_step HBr.out hb6); have H6 := Aside0.mk (Hr.out.below hb6); have HP6 := Aside0.mk (HPr.out.below hb6)
    clear hb6 HBr Hr HPr
    by_cases hle : i ≤ L.length
    ·have hlei : (i : Int) ≤ (L.length : Int) := by omega
     have hmx : L.length ≤ 80 := HLM.out
     go_wp2_with fail
     go_loopw [16, 17, 18, 19, 20] (fun v16 _ _ _ _ wr => ∃ q : Nat, v16 = .int .i64 q ∧ q ≤ 12 ∧ Aside0 (Below w.heap.size w wr) ∧ Aside0 (HP wr base g sv lv l0 L' sok lok) ∧ Aside0 (HP wr base2 g2 sv lv2 l0 L sok lok2)) (fun v16 _ _ _ _ _ => 12 - (intOf v16).toNat)
     case atStart => exact ⟨0, rfl, by omega, HB6, H6, HP6⟩
     case round =>
      clear HB6 H6 HP6
      obtain ⟨q, rfl, hq, HBq, Hq, HPq⟩ := hrel
      by_cases hq12 : q < 12
      ·have hq12i : (q : Int) < 12 := by omega
       go_wp2_with fail
       refine (heap_Get.calls (i : Int) (q : Int) HPq.out).mono ?_
       rintro e w7 ⟨rfl, hb7⟩
       have HB7 := Aside0.mk (below_step HBq.out hb7); have H7 := Aside0.mk (Hq.out.below hb7); have HP7 := Aside0.mk (HPq.out.below hb7)
       clear hb7 HBq Hq HPq
       go_wp2_with fail
       refine (heap_Get.calls (i : Int) (q : Int) H7.out).mono ?_
       rintro e w8 ⟨rfl, hb8⟩
       have HB8 := Aside0.mk (below_step HB7.out hb8); have H8 := Aside0.mk (H7.out.below hb8); have HP8 := Aside0.mk (HP7.out.below hb8)
       clear hb8 HB7 H7 HP7
       have hcc : chkE L' (i : Int) (q : Int) = chkE L (i : Int) (q : Int) := by rw [HLp.out, setO_chk]
       rw [hcc]
       have hab : (chkE L a2 a3 ≠ 0 ∨ (i : Int) ≠ a2 ∨ (q : Int) ≠ a3) → getO L' (i : Int) (q : Int) = getO L (i : Int) (q : Int) := fun h_ => by rw [HLp.out]; exact setO_else a4 h_
       have hbn : chkE L a2 a3 = 0 → (i : Int) = a2 → (q : Int) = a3 → getO L' (i : Int) (q : Int) = a4 := fun h_ e2 e3 => by rw [HLp.out, e2, e3]; exact setO_got a4 h_
       rw [← HEC.out] at hab hbn
       generalize getO L' (i : Int) (q : Int) = b at hab hbn ⊢
       generalize getO L (i : Int) (q : Int) = a at hab ⊢
       generalize chkE L (i : Int) (q : Int) = cc
       have n1 : (cc != cc) = false := bne_self_eq_false cc
       clear hcc
       by_cases z1 : ec = 0
       ·subst z1
        have d1 : ((0 : Int) == 0) = true := rfl
        have d1' : ((0 : Int) != 0) = false := rfl
        by_cases z2 : (i : Int) = a2
        ·have d2 : ((i : Int) == a2) = true := beq_iff_eq.mpr z2
         have d2' : ((i : Int) != a2) = false := by rw [bne, d2]; rfl
         by_cases z3 : (q : Int) = a3
         ·have d3 : ((q : Int) == a3) = true := beq_iff_eq.mpr z3
          have d3' : ((q : Int) != a3) = false := by rw [bne, d3]; rfl
          have hb4 := hbn rfl z2 z3
          have d4 : (b != a4) = false := by rw [hb4]; exact bne_self_eq_false a4
          clear hab hbn hb4 z2 z3
          go_wp2
          go_roundw
          case rel => exact ⟨q + 1, by go_num, by omega, HB8, H8, HP8⟩
          case measure => simp [intOf]; omega
         ·have d3 : ((q : Int) == a3) = false := beq_eq_false_iff_ne.mpr z3
          have d3' : ((q : Int) != a3) = true := by rw [bne, d3]; rfl
          have hb4 := hab (.inr (.inr z3))
          have d4 : (a != b) = false := by rw [hb4]; exact bne_self_eq_false a
          clear hab hbn hb4 z2 z3
          go_wp2
          go_roundw
          case rel => exact ⟨q + 1, by go_num, by omega, HB8, H8, HP8⟩
          case measure => simp [intOf]; omega
        ·have d2 : ((i : Int) == a2) = false := beq_eq_false_iff_ne.mpr z2
         have d2' : ((i : Int) != a2) = true := by rw [bne, d2]; rfl
         have hb4 := hab (.inr (.inl z2))
         have d4 : (a != b) = false := by rw [hb4]; exact bne_self_eq_false a
         clear hab hbn hb4 z2
         go_wp2
         go_roundw
         case rel => exact ⟨q + 1, by go_num, by omega, HB8, H8, HP8⟩
         case measure => simp [intOf]; omega
       ·have d1 : (ec == 0) = false := beq_eq_false_iff_ne.mpr z1
        have d1' : (ec != 0) = true := by rw [bne, d1]; rfl
        have hb4 := hab (.inl z1)
        have d4 : (a != b) = false := by rw [hb4]; exact bne_self_eq_false a
        clear hab hbn hb4 z1
        go_wp2
        go_roundw
        case rel => exact ⟨q + 1, by go_num, by omega, HB8, H8, HP8⟩
        case measure => simp [intOf]; omega
      ·go_wp2
       go_roundw
       case rel => exact ⟨i + 1, by go_num, by omega, by omega, HBq, Hq, HPq⟩
       case measure => simp [intOf]; omega
    ·have hlei : decide ((i : Int) ≤ (L.length : Int)) = false := decide_eq_false (by omega)
     have hln : L'.length = L.length := by rw [HLp.out, setO_len]
     have hl5 := heap_Len.calls H6.out
     rw [hln] at hl5
     have HL5 := Aside0.mk hl5
     clear hl5 hln
     go_wp2_with fail
     refine HL5.out.mono ?_
     rintro e w7 ⟨rfl, hb7⟩
     have HB7 := Aside0.mk (below_step HB6.out hb7); have HP7 := Aside0.mk (HP6.out.below hb7)
     clear hb7 HB6 HP6
     go_wp2_with fail
     refine (heap_Len.calls HP7.out).mono ?_
     rintro e w8 ⟨rfl, hb8⟩
     have HB8 := Aside0.mk (below_step HB7.out hb8)
     clear hb8 HB7 HP7
     have hbb : ((L.length : Int) == (L.length : Int)) = true := beq_self_eq_true _
     go_wp2
     go_ret
     exact ⟨by first | rfl | simp, HB8.out⟩
end
set_option maxRecDepth 100000 in
set_option maxHeartbeats 4000000 in
theorem truantlaw06_HeapKeeps.calls (k : Nat) (A0 : Option Addr) (c0 : Nat) (l0 : List (S43)) (A1 : Option Addr) (c1 : Nat) (l1 : List (S58)) (a2 : Int) (a3 : Int) (a4 : Int) (r : Bool) (w : World) (hr0 : Kd.C k43 w A0 l0.length l0) (hc0 : l0.length ≤ c0) (hr1 : Kd.C k58 w A1 l1.length l1) (hc1 : l1.length ≤ c1) (h : truantlaw06_HeapKeeps.f k l0 l1 a2 a3 a4 = some r) :
  Calls Try.prog 9 #[.slice A0 l0.length c0, .slice A1 l1.length c1, .int .i64 a2, .int .i64 a3, .int .i64 a4] w fun e w' => e = .returned (.bool r) ∧ Below w.heap.size w w' := by
 unfold truantlaw06_HeapKeeps.f at h
 obtain ⟨gr, hgr, h⟩ := Option.bind_eq_some_iff.mp h
 have HR0 := Aside0.mk hr0; have HC0 := Aside0.mk hc0
 cases gr with
 | true =>
  rw [if_pos rfl] at h
  obtain rfl := Option.some.inj h
  have HGR := Aside0.mk hgr
  clear h hgr hr0 hc0 hr1
  go_enter Try.func9, Try.ntmps9
  go_wp2_with fail
  refine (truantlaw06_awake.calls true w rfl).mono ?_
  rintro e w1 ⟨rfl, hb1⟩
  have HB1 := Aside0.mk hb1; clear hb1
  go_wp2_with fail
  refine (truantlaw06_great.calls k A0 c0 l0 true w1 (Kd.C_below HR0.out HB1.out) HC0.out HGR.out).mono ?_
  rintro e w2 ⟨rfl, hd2⟩
  have HB2 := Aside0.mk (below_step HB1.out hd2.below); clear hd2 HB1
  go_wp2
  go_ret
  exact ⟨rfl, HB2.out⟩
 | false =>
  rw [if_neg (by decide)] at h
  by_cases hl : (l1.length : Int) > 80
  ·rw [if_pos hl] at h
   obtain rfl := Option.some.inj h
   have HGR := Aside0.mk hgr
   have hdl : decide ((l1.length : Int) > 80) = true := decide_eq_true hl
   clear h hgr hr0 hc0 hr1
   go_enter Try.func9, Try.ntmps9
   go_wp2_with fail
   refine (truantlaw06_awake.calls true w rfl).mono ?_
   rintro e w1 ⟨rfl, hb1⟩
   have HB1 := Aside0.mk hb1; clear hb1
   go_wp2_with fail
   refine (truantlaw06_great.calls k A0 c0 l0 false w1 (Kd.C_below HR0.out HB1.out) HC0.out HGR.out).mono ?_
   rintro e w2 ⟨rfl, hd2⟩
   have HB2 := Aside0.mk (below_step HB1.out hd2.below); clear hd2 HB1
   go_wp2
   go_ret
   exact ⟨rfl, HB2.out⟩
  ·rw [if_neg hl] at h
   obtain ⟨⟨r1, r2⟩, hck, h⟩ := Option.bind_eq_some_iff.mp h
   by_cases hok : okS l0 = true
   case neg => rw [if_neg hok] at h; cases h
   rw [if_pos hok] at h
   obtain rfl := Option.some.inj h
   by_cases hz : r2 = 0
   ·subst hz
    exact HeapKeeps.there k A0 c0 l0 A1 c1 l1 a2 a3 a4 r1 w hr0 hc0 hr1 hc1 hgr hl hck hok
   ·exact HeapKeeps.nil k A0 c0 l0 A1 c1 l1 a2 a3 a4 r1 r2 w hr0 hc0 hr1 hc1 hgr hl hck (bne_iff_ne.mpr hz)
/-- What reads at type t reads as a value of kind K, of which Q holds. -/
structure Opens {α : Type} (P : Program) (t : TypeId) (K : Kd α) (Q : α → Prop) : Prop where
 out : ∀ {H : Type} {enc : TypeId × Value → H} {W : World} {base : Nat} {sp : Nat → Bool} {held : Bool} {fuel : Nat} {cs : List Value} {x : DataW H × List MemPlace},
  (∀ n ∈ x.1.weights P t, n ≤ reachBytes) → DataW.trod enc P W base sp held fuel t cs = some x → ∃ y, K.K W y cs ∧ Q y
section
variable {P : Program}
theorem opens_string {t : TypeId} (ht : P.underlying t = some .string) : Opens P t Kd.string (fun s => s.size ≤ 140737488351232) := by
 constructor
 intro H enc W base sp held fuel cs x hw h
 obtain ⟨s, rfl, rfl, hs⟩ : ∃ s : ByteArray, cs = [.string s] ∧ x = (.lit (.string s.data.toList), []) ∧ s.size ≤ maxLen := by
  cases fuel with
  | zero => simp [DataW.trod] at h
  | succ n =>
   unfold DataW.trod at h
   rw [ht] at h
   split at h <;> simp_all
 refine ⟨s, rfl, ?_⟩
 have := hw s.data.toList.length (by simp [DataW.weights])
 rw [Array.length_toList] at this
 exact this
theorem opens_int {t : TypeId} {q : IntKind} (ht : P.underlying t = some (.int q)) : Opens P t (Kd.int q) (fun n => (Lit.int q n).wf = true) := by
 constructor
 intro H enc W base sp held fuel cs x hw h
 obtain ⟨n, rfl, hs⟩ : ∃ n : Int, cs = [.int q n] ∧ (Lit.int q n).wf = true := by
  cases fuel with
  | zero => simp [DataW.trod] at h
  | succ n =>
   unfold DataW.trod at h
   rw [ht] at h
   split at h <;> simp_all
 exact ⟨n, rfl, hs⟩
theorem weights_all {H : Type} {e : TypeId} : ∀ {ds : List (DataW H)} {d : DataW H}, d ∈ ds → ∀ n ∈ d.weights P e, n ∈ DataW.weightsAll P e ds
 | d0 :: ds, d, hd, n, hn => by
  simp only [DataW.weightsAll, List.mem_append]
  rcases List.mem_cons.mp hd with rfl | h
  ·exact .inl hn
  ·exact .inr (weights_all h n hn)
theorem choose_list {α : Type} {p : Nat → α → Prop} : ∀ {n : Nat}, (∀ i, i < n → ∃ y, p i y) → ∃ ys : List α, ys.length = n ∧ ∀ i y, ys[i]? = some y → p i y
 | 0, _ => ⟨[], rfl, fun i y h => by simp at h⟩
 | n + 1, h => by
  obtain ⟨ys, hl, hy⟩ := choose_list (n := n) (fun i hi => h i (by omega))
  obtain ⟨y, hp⟩ := h n (by omega)
  refine ⟨ys ++ [y], by simp [hl], fun i z hz => ?_⟩
  by_cases hi : i < n
  ·rw [List.getElem?_append_left (by omega)] at hz
   exact hy i z hz
  ·have := (List.getElem?_eq_some_iff.mp hz).1
   simp at this
   have e : i = n := by omega
   subst e
   rw [List.getElem?_append_right (by omega)] at hz
   simp [hl] at hz
   subst hz
   exact hp
theorem opens_slice {α : Type} {t e : TypeId} {K : Kd α} {Q : α → Prop} (he : Opens P e K Q) (ht : P.underlying t = some (.slice e)) (hc : P.cellsOf e = K.sz) (bytes : Nat) (hb : P.bytesOf e = bytes) :
  Opens P t (Kd.slice e K) (fun l => l.length * bytes ≤ 140737488351232 ∧ ∀ x ∈ l, Q x) := by
 constructor
 intro H enc W base sp held fuel cs x hw h
 rcases Deep.open_slice ht h with ⟨rfl, rfl⟩ | ⟨a, len, cap, m, n, D, Pl, rfl, _, hl, hm, hmm, rfl, hel⟩
 ·exact ⟨[], ⟨none, 0, rfl, Nat.le_refl _, Kd.C_nil K W⟩, by simp, by simp⟩
 ·have hlm : len ≤ m := by rw [hmm]; split <;> omega
  have hw' : ∀ i, i < len → ∀ k ∈ (D i).weights P e, k ≤ reachBytes := fun i hi k hk => hw k (by
   simp only [DataW.weights, ht, List.mem_cons, List.mem_append]
   exact .inr (.inl (weights_all (List.mem_map.mpr ⟨i, by simpa using hi, rfl⟩) k hk)))
  obtain ⟨ys, hys, hY⟩ := choose_list (n := len) (p := fun i y => (∃ c, c.length = K.sz ∧ K.K W y c ∧ ∀ j u, c[j]? = some u → W.cell? (a.add (i * K.sz + j)) = some u) ∧ Q y) (fun i hi => by
   obtain ⟨c, h1, h2⟩ := hel i (by omega)
   obtain ⟨y, hy, hq⟩ := he.out (hw' i hi) h2
   obtain ⟨_, h3, h4⟩ := World.cells?_some h1
   rw [hc] at h3 h4
   refine ⟨y, ⟨c, h3, hy, fun j u hu => ?_⟩, hq⟩
   have hj : j < K.sz := by
    have := (List.getElem?_eq_some_iff.mp hu).1
    omega
   have h5 := h4 j hj
   rw [Addr.add_add] at h5
   rw [h5, hu])
  have hlen : len ≤ maxLen := by omega
  refine ⟨ys, ⟨some a, cap, by rw [hys], by omega, rfl, by rw [hys]; unfold maxLen at hlen; omega, fun _ => ⟨a, rfl, fun j p hj => (hY j p hj).1⟩⟩, ?_, ?_⟩
  ·have := hw ((((List.range len).map D).length + ((List.range (m - len)).map fun j => D (len + j)).length) * P.bytesOf e) (by simp [DataW.weights, ht])
   rw [hb] at this
   simp only [List.length_map, List.length_range] at this
   have h2 : len * bytes ≤ (len + (m - len)) * bytes := Nat.mul_le_mul_right _ (by omega)
   rw [hys]
   unfold reachBytes at this
   omega
  ·intro x hx
   obtain ⟨i, hi, rfl⟩ := List.mem_iff_getElem.mp hx
   exact (hY i _ (List.getElem?_eq_getElem hi)).2
/-- The fields from one on. -/
structure OpensF {α : Type} (P : Program) (fs : List Field) (off : Nat) (K : Kd α) (Q : α → Prop) : Prop where
 out : ∀ {H : Type} {enc : TypeId × Value → H} {W : World} {base : Nat} {sp : Nat → Bool} {held : Bool} {fuel : Nat} {cs : List Value} {xs : List (DataW H × List MemPlace)},
  cs.length = off + K.sz → (∀ n ∈ DataW.weightsEach P (fs.map (·.type)) (xs.map (·.1)), n ≤ reachBytes) → (fs.mapM fun f => DataW.trod enc P W base sp held fuel f.type ((cs.drop f.offset).take (P.cellsOf f.type))) = some xs → ∃ y, K.K W y (cs.drop off) ∧ Q y
theorem opensF_last {α : Type} {f : Field} {off t : Nat} {K : Kd α} {Q : α → Prop} (h : Opens P t K Q) (h0 : f.type = t) (hc : P.cellsOf t = K.sz) (ho : f.offset = off) : OpensF P [f] off K Q := by
 constructor
 intro H enc W base sp held fuel cs xs hl hw hm
 subst h0
 simp only [List.mapM_cons, List.mapM_nil, Option.pure_def, Option.bind_eq_bind, Option.bind_some] at hm
 obtain ⟨x, hx, hm⟩ := Option.bind_eq_some_iff.mp hm
 obtain rfl := Option.some.inj hm
 rw [hc, ho, List.take_of_length_le (by rw [List.length_drop]; omega)] at hx
 exact h.out (fun n hn => hw n (by simp [DataW.weightsEach, hn])) hx
theorem opensF_cons {α β : Type} {f : Field} {fs : List Field} {off t : Nat} {K : Kd α} {K1 : Kd β} {Q : α → Prop} {Q1 : β → Prop} (h : Opens P t K Q) (h0 : f.type = t) (hc : P.cellsOf t = K.sz) (ho : f.offset = off) (h1 : OpensF P fs (off + K.sz) K1 Q1) :
  OpensF P (f :: fs) off (Kd.pair K K1) (fun p => Q p.1 ∧ Q1 p.2) := by
 constructor
 intro H enc W base sp held fuel cs xs hl hw hm
 subst h0
 have hl : cs.length = off + (K.sz + K1.sz) := hl
 rw [List.mapM_cons] at hm
 simp only [Option.pure_def, Option.bind_eq_bind] at hm
 obtain ⟨x, hx, hm⟩ := Option.bind_eq_some_iff.mp hm
 obtain ⟨xs', hxs, hm⟩ := Option.bind_eq_some_iff.mp hm
 obtain rfl := Option.some.inj hm
 rw [hc, ho] at hx
 obtain ⟨y, hy, hq⟩ := h.out (fun n hn => hw n (by simp only [List.map_cons, DataW.weightsEach, List.mem_append]; exact .inl hn)) hx
 obtain ⟨z, hz, hq1⟩ := h1.out (by omega) (fun n hn => hw n (by simp only [List.map_cons, DataW.weightsEach, List.mem_append]; exact .inr hn)) hxs
 refine ⟨(y, z), ⟨(cs.drop off).take K.sz, cs.drop (off + K.sz), ?_, hy, hz⟩, hq, hq1⟩
 rw [← List.drop_drop, List.take_append_drop]
theorem opens_struct {α β : Type} {t : TypeId} {fs : Array Field} {K : Kd α} {Q : α → Prop} (ht : P.underlying t = some (.struct fs)) (h : OpensF P fs.toList 0 K Q) (hc : P.cellsOf t = K.sz) (g : β → α) (g' : α → β) (hg : ∀ y, g (g' y) = y) : Opens P t (Kd.iso K g) (fun x => Q (g x)) := by
 constructor
 intro H enc W base sp held fuel cs x hw hm
 cases fuel with
 | zero => simp [DataW.trod] at hm
 | succ n =>
  unfold DataW.trod at hm
  rw [ht] at hm
  simp only at hm
  split at hm
  ·rename_i hl
   obtain ⟨xs, hxs, rfl⟩ := Option.map_eq_some_iff.mp hm
   obtain ⟨y, hy, hq⟩ := h.out (cs := cs) (xs := xs) (by rw [hl, hc]; omega) (fun n hn => hw n (by simp only [DataW.weights, ht]; exact hn)) hxs
   exact ⟨g' y, by show K.K W (g (g' y)) cs; rw [hg]; simpa using hy, by show Q (g (g' y)); rw [hg]; exact hq⟩
  ·cases hm
theorem opens_struct' {α β : Type} {t : TypeId} {fs : Array Field} {K : Kd α} {Q : α → Prop} {k : Kd β} {WF : β → Prop} (g' : α → β) (g : β → α) (ht : P.underlying t = some (.struct fs)) (h : OpensF P fs.toList 0 K Q) (hc : P.cellsOf t = K.sz) (hk : k = Kd.iso K g) (hg : ∀ y, g (g' y) = y) (hQ : ∀ x, Q (g x) → WF x) : Opens P t k WF := by
 subst hk
 constructor
 intro H enc W base sp held fuel cs x hw hm
 obtain ⟨y, h1, h2⟩ := (opens_struct ht h hc g g' hg).out hw hm
 exact ⟨y, h1, hQ y h2⟩
end
def WF48 (x : S48) : Prop := ((fun s : ByteArray => s.size ≤ 140737488351232) x.f0) ∧ ((fun s : ByteArray => s.size ≤ 140737488351232) x.f1)
theorem opens48 : Opens Try.prog 48 k48 WF48 :=
 opens_struct' (fun p : (ByteArray) × (ByteArray) => (⟨p.1, p.2⟩ : S48)) (fun x : S48 => (x.f0, x.f1)) Try.underlying48 (opensF_cons (opens_string Try.underlying9) rfl (by kernel_rfl) rfl (opensF_last (opens_string Try.underlying9) rfl (by kernel_rfl) rfl)) (by kernel_rfl) rfl (fun _ => rfl) (fun _ h => h)
def WF43 (x : S43) : Prop := ((fun s : ByteArray => s.size ≤ 140737488351232) x.f0) ∧ ((fun l : List (S48) => l.length * 32 ≤ 140737488351232 ∧ ∀ x ∈ l, WF48 x) x.f1)
theorem opens43 : Opens Try.prog 43 k43 WF43 :=
 opens_struct' (fun p : (ByteArray) × (List (S48)) => (⟨p.1, p.2⟩ : S43)) (fun x : S43 => (x.f0, x.f1)) Try.underlying43 (opensF_cons (opens_string Try.underlying9) rfl (by kernel_rfl) rfl (opensF_last (opens_slice opens48 Try.underlying41 (by kernel_rfl) 32 (by kernel_rfl)) rfl (by kernel_rfl) rfl)) (by kernel_rfl) rfl (fun _ => rfl) (fun _ h => h)
def WF58 (x : S58) : Prop := ((fun n : Int => (Lit.int .i64 n).wf = true) x.f0) ∧ ((fun s : ByteArray => s.size ≤ 140737488351232) x.f1) ∧ ((fun n : Int => (Lit.int .i64 n).wf = true) x.f2) ∧ ((fun n : Int => (Lit.int .i64 n).wf = true) x.f3) ∧ ((fun n : Int => (Lit.int .i64 n).wf = true) x.f4)
theorem opens58 : Opens Try.prog 58 k58 WF58 :=
 opens_struct' (fun p : (Int) × (ByteArray) × (Int) × (Int) × (Int) => (⟨p.1, p.2.1, p.2.2.1, p.2.2.2.1, p.2.2.2.2⟩ : S58)) (fun x : S58 => (x.f0, x.f1, x.f2, x.f3, x.f4)) Try.underlying58 (opensF_cons (opens_int Try.underlying3) rfl (by kernel_rfl) rfl (opensF_cons (opens_string Try.underlying9) rfl (by kernel_rfl) rfl (opensF_cons (opens_int Try.underlying3) rfl (by kernel_rfl) rfl (opensF_cons (opens_int Try.underlying3) rfl (by kernel_rfl) rfl (opensF_last (opens_int Try.underlying3) rfl (by kernel_rfl) rfl))))) (by kernel_rfl) rfl (fun _ => rfl) (fun _ h => h)
def HeapKeeps.Pure : Prop := ∀ (l0 : List (S43)) (l1 : List (S58)) (a2 : Int) (a3 : Int) (a4 : Int), (fun l : List (S43) => l.length * 40 ≤ 140737488351232 ∧ ∀ x ∈ l, WF43 x) l0 → (fun l : List (S58) => l.length * 48 ≤ 140737488351232 ∧ ∀ x ∈ l, WF58 x) l1 → (fun n : Int => (Lit.int .i64 n).wf = true) a2 → (fun n : Int => (Lit.int .i64 n).wf = true) a3 → (fun n : Int => (Lit.int .i64 n).wf = true) a4 → ∃ k, truantlaw06_HeapKeeps.f k l0 l1 a2 a3 a4 = some true
section
variable {α : Type}
theorem Ev.pos {c : Prop} [Decidable c] {A B : Nat → Option α} {r : α} (h : c) (k : Ev A r) : Ev (fun n => if c then A n else B n) r := Ev.congr (fun n => if_pos h) k
theorem Ev.neg {c : Prop} [Decidable c] {A B : Nat → Option α} {r : α} (h : ¬ c) (k : Ev B r) : Ev (fun n => if c then A n else B n) r := Ev.congr (fun n => if_neg h) k
theorem Ev.one {β : Type} {a : Option β} {b : β} {f : Nat → β → Option α} {r : α} (h : a = some b) (k : Ev (fun n => f n b) r) : Ev (fun n => a.bind (f n)) r := Ev.congr (fun n => by rw [h]; rfl) k
theorem Ev.eq {g : Nat → Option α} {r r' : α} (k : Ev g r) (h : r = r') : Ev g r' := h ▸ k
end
def keyList : List ByteArray := [⟨#[116, 121, 112, 101]⟩, ⟨#[115, 116, 114, 117, 99, 116]⟩, ⟨#[102, 117, 110, 99]⟩, ⟨#[118, 97, 114]⟩, ⟨#[105, 102]⟩, ⟨#[101, 108, 115, 101]⟩, ⟨#[102, 111, 114]⟩, ⟨#[114, 101, 116, 117, 114, 110]⟩, ⟨#[112, 114, 105, 110, 116]⟩, ⟨#[110, 101, 119]⟩, ⟨#[110, 105, 108]⟩, ⟨#[116, 114, 117, 101]⟩, ⟨#[102, 97, 108, 115, 101]⟩, ⟨#[105, 110, 116]⟩, ⟨#[98, 111, 111, 108]⟩, ⟨#[114, 101, 97, 100]⟩]
def keyIs (s k : ByteArray) : Bool := k.toList == s.toList
def truantref02_Key.f (a0 : ByteArray) : Option (Bool) := some (decide (0 ≤ findR (keyIs a0) keyList))
set_option maxHeartbeats 800000 in
theorem truantref02_Key.calls (a0 : ByteArray) (r : Bool) (w : World) (h : truantref02_Key.f a0 = some r) :
  Calls Try.prog 96 #[.string a0] w fun e w' => e = .returned (.bool r) ∧ Below w.heap.size w w' := by
 unfold truantref02_Key.f at h
 have hr := Option.some.inj h
 have HRR := Aside0.mk hr
 clear h hr
 go_enter Try.func96, Try.ntmps96
 go_wp2_with fail
 have HC : Aside0 (∀ k : Nat, k < 16 → (w.alloc (.cells (keyList.map Value.string).toArray 136)).cell? ⟨w.heap.size, k, none⟩ = some (.string (keyList.getD k ⟨#[]⟩))) := ⟨fun k hk => by
  rw [World.cell?_alloc_at _ _ _ _ rfl]
  have h16 : k < keyList.length := hk
  simp [List.getD, List.getElem?_eq_getElem h16]⟩
 have HW : Aside0 (Below w.heap.size w (w.alloc (.cells (keyList.map Value.string).toArray 136))) := ⟨below_alloc (Below.refl _ _) _⟩
 have he : (keyList.map Value.string).toArray = #[.string ⟨#[116, 121, 112, 101]⟩, .string ⟨#[115, 116, 114, 117, 99, 116]⟩, .string ⟨#[102, 117, 110, 99]⟩, .string ⟨#[118, 97, 114]⟩, .string ⟨#[105, 102]⟩, .string ⟨#[101, 108, 115, 101]⟩, .string ⟨#[102, 111, 114]⟩, .string ⟨#[114, 101, 116, 117, 114, 110]⟩, .string ⟨#[112, 114, 105, 110, 116]⟩, .string ⟨#[110, 101, 119]⟩, .string ⟨#[110, 105, 108]⟩, .string ⟨#[116, 114, 117, 101]⟩, .string ⟨#[102, 97, 108, 115, 101]⟩, .string ⟨#[105, 110, 116]⟩, .string ⟨#[98, 111, 111, 108]⟩, .string ⟨#[114, 101, 97, 100]⟩] := rfl
 rw [he] at HC HW
 clear he
 generalize w.alloc _ = W1 at HC HW ⊢
 go_loopw [4] (fun v wr => ∃ k : Nat, v = .int .i64 k ∧ k ≤ 16 ∧ Aside0 (∀ i : Nat, i < k → keyIs a0 (keyList.getD i ⟨#[]⟩) = false) ∧ wr = W1) (fun v _ => 16 - (intOf v).toNat)
 case atStart => exact ⟨0, rfl, by omega, ⟨fun i h => absurd h (Nat.not_lt_zero _)⟩, rfl⟩
 case round =>
  obtain ⟨k, rfl, hk, HA, rfl⟩ := hrel
  by_cases hlt : k < 16
  ·have hc := HC.out k hlt
   obtain ⟨x, ex⟩ : ∃ x, x = keyList.getD k ⟨#[]⟩ := ⟨_, rfl⟩
   rw [← ex] at hc
   have EX := Aside0.mk ex; clear ex
   rcases he : (x.toList == a0.toList) with _ | _
   ·have he2 : ¬ x.toList = a0.toList := beq_eq_false_iff_ne.mp he
    have HA1 : Aside0 (∀ i : Nat, i < k + 1 → keyIs a0 (keyList.getD i ⟨#[]⟩) = false) := ⟨all_succ (P := fun i => keyIs a0 (keyList.getD i ⟨#[]⟩) = false) HA.out (by unfold keyIs; rw [← EX.out]; exact he)⟩
    clear HA EX
    go_wp2
    go_roundw
    case rel => exact ⟨k + 1, by go_num, by omega, HA1, by first | rfl | trivial⟩
    case measure => simp [intOf]; omega
   ·have HF : Aside0 (r = true) := ⟨by rw [← HRR.out, find_last (l := keyList) (z := ⟨#[]⟩) (k := k) hlt HA.out (by unfold keyIs; rw [← EX.out]; exact he)]; exact decide_eq_true (by omega)⟩
    have he2 : x.toList = a0.toList := beq_iff_eq.mp he
    clear EX HA
    go_wp2
    go_ret
    exact ⟨by rw [HF.out]; rfl, HW.out⟩
  ·have HF : Aside0 (r = false) := ⟨by rw [← HRR.out, find_none (l := keyList) (z := ⟨#[]⟩) (fun i hi => HA.out i (by have : keyList.length = 16 := rfl; omega))]; rfl⟩
   go_wp2
   go_ret
   exact ⟨by rw [HF.out]; rfl, HW.out⟩
end Go.Proofs.Ytonmlncejikbiaa.Q
namespace Go.Proofs.Ytonmlncejikbiaa.Q
open Go.RowKit Go.Proofs.YtonmlncejikbiaaW.PrintWords Go.Proofs.YtonmlncejikbiaaW.PrintLast Go.Proofs.YtonmlncejikbiaaW.PrintMore
attribute [local go_sem] max2_int min2_int max_two min_two max_three min_three max_four min_four   -- for this text's walks alone
set_option linter.unusedVariables false
set_option linter.unusedSimpArgs false
/-! ### truantref02_letter: function 95 -/
def truantref02_letter.f (a0 : Int) : Option (Bool) := if a0 ≥ 97 then (if a0 ≤ 122 then (some true) else (if a0 ≥ 65 then (if a0 ≤ 90 then (some true) else (some (a0 == 95))) else (some (a0 == 95)))) else (if a0 ≥ 65 then (if a0 ≤ 90 then (some true) else (some (a0 == 95))) else (some (a0 == 95)))
set_option maxHeartbeats 8000000 in
set_option maxRecDepth 100000 in
theorem truantref02_letter.calls (a0 : Int) (r : Bool) (w : World) (h : truantref02_letter.f a0 = some r) :
  Calls Try.prog 95 #[.int .u8 a0] w fun e w' => e = .returned (.bool r) ∧ Drawn0 w w' := by
 have H : (if a0 ≥ 97 then (if a0 ≤ 122 then (some true) else (if a0 ≥ 65 then (if a0 ≤ 90 then (some true) else (some (a0 == 95))) else (some (a0 == 95)))) else (if a0 ≥ 65 then (if a0 ≤ 90 then (some true) else (some (a0 == 95))) else (some (a0 == 95)))) = some r := h
 clear h
 by_cases c2 : a0 ≥ 97
 ·rw [if_pos c2] at H
  have c2b0 : decide (97 ≤ a0) = true := decide_eq_true c2
  clear c2
  by_cases c3 : a0 ≤ 122
  ·rw [if_pos c3] at H
   have c3b0 : decide (a0 ≤ 122) = true := decide_eq_true c3
   clear c3
   obtain rfl := Option.some.inj H
   go_enter Try.func95, Try.ntmps95
   go_wp2
   go_ret
   exact ⟨by first | rfl | (simp; done) | (simp [*]; done), by repeat (first | exact Drawn0.refl _ | apply Drawn0.step)⟩
  ·rw [if_neg c3] at H
   have c3b0 : decide (a0 ≤ 122) = false := decide_eq_false c3
   clear c3
   by_cases c4 : a0 ≥ 65
   ·rw [if_pos c4] at H
    have c4b0 : decide (65 ≤ a0) = true := decide_eq_true c4
    clear c4
    by_cases c5 : a0 ≤ 90
    ·rw [if_pos c5] at H
     have c5b0 : decide (a0 ≤ 90) = true := decide_eq_true c5
     clear c5
     obtain rfl := Option.some.inj H
     go_enter Try.func95, Try.ntmps95
     go_wp2
     go_ret
     exact ⟨by first | rfl | (simp; done) | (simp [*]; done), by repeat (first | exact Drawn0.refl _ | apply Drawn0.step)⟩
    ·rw [if_neg c5] at H
     have c5b0 : decide (a0 ≤ 90) = false := decide_eq_false c5
     clear c5
     obtain rfl := Option.some.inj H
     go_enter Try.func95, Try.ntmps95
     go_wp2
     go_ret
     exact ⟨by first | rfl | (simp; done) | (simp [*]; done), by repeat (first | exact Drawn0.refl _ | apply Drawn0.step)⟩
   ·rw [if_neg c4] at H
    have c4b0 : decide (65 ≤ a0) = false := decide_eq_false c4
    clear c4
    obtain rfl := Option.some.inj H
    go_enter Try.func95, Try.ntmps95
    go_wp2
    go_ret
    exact ⟨by first | rfl | (simp; done) | (simp [*]; done), by repeat (first | exact Drawn0.refl _ | apply Drawn0.step)⟩
 ·rw [if_neg c2] at H
  have c2b0 : decide (97 ≤ a0) = false := decide_eq_false c2
  clear c2
  by_cases c6 : a0 ≥ 65
  ·rw [if_pos c6] at H
   have c6b0 : decide (65 ≤ a0) = true := decide_eq_true c6
   clear c6
   by_cases c7 : a0 ≤ 90
   ·rw [if_pos c7] at H
    have c7b0 : decide (a0 ≤ 90) = true := decide_eq_true c7
    clear c7
    obtain rfl := Option.some.inj H
    go_enter Try.func95, Try.ntmps95
    go_wp2
    go_ret
    exact ⟨by first | rfl | (simp; done) | (simp [*]; done), by repeat (first | exact Drawn0.refl _ | apply Drawn0.step)⟩
   ·rw [if_neg c7] at H
    have c7b0 : decide (a0 ≤ 90) = false := decide_eq_false c7
    clear c7
    obtain rfl := Option.some.inj H
    go_enter Try.func95, Try.ntmps95
    go_wp2
    go_ret
    exact ⟨by first | rfl | (simp; done) | (simp [*]; done), by repeat (first | exact Drawn0.refl _ | apply Drawn0.step)⟩
  ·rw [if_neg c6] at H
   have c6b0 : decide (65 ≤ a0) = false := decide_eq_false c6
   clear c6
   obtain rfl := Option.some.inj H
   go_enter Try.func95, Try.ntmps95
   go_wp2
   go_ret
   exact ⟨by first | rfl | (simp; done) | (simp [*]; done), by repeat (first | exact Drawn0.refl _ | apply Drawn0.step)⟩
/-! ### truantref02_digit: function 97 -/
def truantref02_digit.f (a0 : Int) : Option (Bool) := if a0 ≥ 48 then (some (decide (a0 ≤ 57))) else (some false)
set_option maxHeartbeats 8000000 in
set_option maxRecDepth 100000 in
theorem truantref02_digit.calls (a0 : Int) (r : Bool) (w : World) (h : truantref02_digit.f a0 = some r) :
  Calls Try.prog 97 #[.int .u8 a0] w fun e w' => e = .returned (.bool r) ∧ Drawn0 w w' := by
 have H : (if a0 ≥ 48 then (some (decide (a0 ≤ 57))) else (some false)) = some r := h
 clear h
 by_cases c2 : a0 ≥ 48
 ·rw [if_pos c2] at H
  have c2b0 : decide (48 ≤ a0) = true := decide_eq_true c2
  clear c2
  obtain rfl := Option.some.inj H
  go_enter Try.func97, Try.ntmps97
  go_wp2
  go_ret
  exact ⟨by first | rfl | (simp; done) | (simp [*]; done), by repeat (first | exact Drawn0.refl _ | apply Drawn0.step)⟩
 ·rw [if_neg c2] at H
  have c2b0 : decide (48 ≤ a0) = false := decide_eq_false c2
  clear c2
  obtain rfl := Option.some.inj H
  go_enter Try.func97, Try.ntmps97
  go_wp2
  go_ret
  exact ⟨by first | rfl | (simp; done) | (simp [*]; done), by repeat (first | exact Drawn0.refl _ | apply Drawn0.step)⟩
/-! ### truantref02_Word: function 70 -/
mutual
def truantref02_Word.j0 : Nat → ByteArray → Bool → Option (Bool)
 | 0, _, _ => none
 | k + 1, x0, x21 => if x21 = true then (some false) else (truantref02_Word.l0 k x0 0)
def truantref02_Word.l0 : Nat → ByteArray → Int → Option (Bool)
 | 0, _, _ => none
 | k + 1, x0, x3 => if x3 < (x0.size : Int) then (if 0 ≤ x3 then ((truantref02_letter.f (bt x0 x3)).bind fun t105 => (if t105 = true then (truantref02_Word.l0 k x0 (wrap64 (x3 + 1))) else ((truantref02_digit.f (bt x0 x3)).bind fun t106 => (if t106 = true then (truantref02_Word.l0 k x0 (wrap64 (x3 + 1))) else (some false))))) else (none)) else (some true)
end
def truantref02_Word.f (k : Nat) (a0 : ByteArray) : Option (Bool) := if (a0.size : Int) = 0 then (truantref02_Word.j0 k a0 true) else (if (a0.size : Int) > 12 then (truantref02_Word.j0 k a0 true) else (if 0 < (a0.size : Int) then ((truantref02_letter.f (bt a0 0)).bind fun t103 => (if t103 = true then ((truantref02_Key.f a0).bind fun t104 => (truantref02_Word.j0 k a0 t104)) else (truantref02_Word.j0 k a0 true))) else (none)))
theorem truantref02_Word.mono_l : ∀ k, (∀ y0 y1, LeO (truantref02_Word.j0 k y0 y1) (truantref02_Word.j0 (k + 1) y0 y1)) ∧ (∀ y0 y1, LeO (truantref02_Word.l0 k y0 y1) (truantref02_Word.l0 (k + 1) y0 y1))
 | 0 => ⟨fun _ _ r h => by simp [truantref02_Word.j0] at h, fun _ _ r h => by simp [truantref02_Word.l0] at h⟩
 | k + 1 => by
  obtain ⟨ih0, ih1⟩ := truantref02_Word.mono_l k
  refine ⟨?_, ?_⟩
  ·intro y0 y1
   unfold truantref02_Word.j0
   repeat' first
   | (with_reducible exact ih0 _ _)
   | (with_reducible exact ih1 _ _)
   | (with_reducible exact LeO.refl _)
   | (with_reducible exact LeO.none _)
   | (with_reducible refine LeO.ite ?_ ?_)
   | (with_reducible refine LeO.bind ?_ (fun _ => ?_))
   | exact ih0 _ _
   | exact ih1 _ _
   | exact LeO.none _
   | refine LeO.ite ?_ ?_
   | refine LeO.bind ?_ (fun _ => ?_)
  ·intro y0 y1
   unfold truantref02_Word.l0
   repeat' first
   | (with_reducible exact ih0 _ _)
   | (with_reducible exact ih1 _ _)
   | (with_reducible exact LeO.refl _)
   | (with_reducible exact LeO.none _)
   | (with_reducible refine LeO.ite ?_ ?_)
   | (with_reducible refine LeO.bind ?_ (fun _ => ?_))
   | exact ih0 _ _
   | exact ih1 _ _
   | exact LeO.none _
   | refine LeO.ite ?_ ?_
   | refine LeO.bind ?_ (fun _ => ?_)
theorem truantref02_Word.mono : ∀ a0 k, LeO (truantref02_Word.f k a0) (truantref02_Word.f (k + 1) a0) := by
 intro a0 k
 obtain ⟨ih0, ih1⟩ := truantref02_Word.mono_l k
 unfold truantref02_Word.f
 repeat' first
   | (with_reducible exact ih0 _ _)
   | (with_reducible exact ih1 _ _)
   | (with_reducible exact LeO.refl _)
   | (with_reducible exact LeO.none _)
   | (with_reducible refine LeO.ite ?_ ?_)
   | (with_reducible refine LeO.bind ?_ (fun _ => ?_))
   | exact ih0 _ _
   | exact ih1 _ _
   | exact LeO.none _
   | refine LeO.ite ?_ ?_
   | refine LeO.bind ?_ (fun _ => ?_)
set_option maxHeartbeats 8000000 in
set_option maxRecDepth 100000 in
theorem truantref02_Word.calls (k : Nat) (a0 : ByteArray) (r : Bool) (w : World) (h : truantref02_Word.f k a0 = some r) :
  Calls Try.prog 70 #[.string a0] w fun e w' => e = .returned (.bool r) ∧ Below w.heap.size w w' := by
 have HB := Aside0.mk (Below.refl w.heap.size w)
 have H : (if (a0.size : Int) = 0 then (truantref02_Word.j0 k a0 true) else (if (a0.size : Int) > 12 then (truantref02_Word.j0 k a0 true) else (if 0 < (a0.size : Int) then ((truantref02_letter.f (bt a0 0)).bind fun t103 => (if t103 = true then ((truantref02_Key.f a0).bind fun t104 => (truantref02_Word.j0 k a0 t104)) else (truantref02_Word.j0 k a0 true))) else (none)))) = some r := h
 clear h
 have HC2 := Aside0.mk H
 clear H
 go_enter Try.func70, Try.ntmps70
 go_upto_region 1 with (fail)
 go_cut [21] (fun v21 wc => ∃ (kq : Nat) (x21_1 : Bool), v21 = .bool x21_1 ∧ Aside0 (truantref02_Word.j0 kq a0 x21_1 = some r) ∧ Aside0 (kq ≤ k) ∧ Aside0 (Below w.heap.size w wc))
 case first =>
  have H := HC2.out
  clear HC2
  by_cases c3 : (a0.size : Int) = 0
  ·rw [if_pos c3] at H
   have c3b0 : ((a0.size : Int) == 0) = true := beq_iff_eq.mpr c3
   have c3b1 : ((a0.size : Int) != 0) = false := bne_eq_false_iff_eq.mpr c3
   clear c3
   (first | rw [c3b0] | rw [c3b1] | rw [c3b4] | (simp only [i64_w, i32_w]; rw [c3b0]) | skip)
   have H' := Aside0.mk H
   clear H
   go_wp2
   go_meet
   case rel => exact ⟨_, (true), (by first | rfl | (simp; done) | (simp [*]; done)), H', ⟨by first | omega | exact Nat.le_refl _⟩, ⟨by repeat (first | (with_reducible first | exact HB.out | apply below_alloc | apply pw_below_drewN | apply below_drew1) | exact HB.out)⟩⟩
  ·rw [if_neg c3] at H
   have c3b0 : ((a0.size : Int) == 0) = false := beq_eq_false_iff_ne.mpr c3
   have c3b1 : ((a0.size : Int) != 0) = true := bne_iff_ne.mpr c3
   (first | rw [c3b0] | rw [c3b1] | rw [c3b4] | (simp only [i64_w, i32_w]; rw [c3b0]) | skip)
   by_cases c4 : (a0.size : Int) > 12
   ·rw [if_pos c4] at H
    have c4b0 : decide (12 < (a0.size : Int)) = true := decide_eq_true c4
    have c4b1 : decide (12 < a0.size) = true := decide_eq_true (by omega)
    clear c4
    have H' := Aside0.mk H
    clear H
    go_wp2
    go_meet
    case rel => exact ⟨_, (true), (by first | rfl | (simp; done) | (simp [*]; done)), H', ⟨by first | omega | exact Nat.le_refl _⟩, ⟨by repeat (first | (with_reducible first | exact HB.out | apply below_alloc | apply pw_below_drewN | apply below_drew1) | exact HB.out)⟩⟩
   ·rw [if_neg c4] at H
    have c4b0 : decide (12 < (a0.size : Int)) = false := decide_eq_false c4
    have c4b1 : decide (12 < a0.size) = false := decide_eq_false (by omega)
    clear c4
    by_cases c5 : 0 < (a0.size : Int)
    ·rw [if_pos c5] at H
     have c5b0 : decide (0 < (a0.size : Int)) = true := decide_eq_true c5
     have c5b1 : decide (0 < a0.size) = true := decide_eq_true (by omega)
     clear c5
     replace H := Option.bind_eq_some_iff.mp H
     obtain ⟨t103, A70, H⟩ := H
     replace H : (if t103 = true then ((truantref02_Key.f a0).bind fun t104 => (truantref02_Word.j0 k a0 t104)) else (truantref02_Word.j0 k a0 true)) = some r := H
     have A7 := Aside0.mk A70
     clear A70
     by_cases c8 : t103 = true
     ·subst c8
      have H1 : ((truantref02_Key.f a0).bind fun t104 => (truantref02_Word.j0 k a0 t104)) = some r := by rw [if_pos rfl] at H; exact H
      clear H
      have H := H1
      clear H1
      replace H := Option.bind_eq_some_iff.mp H
      obtain ⟨t104, A90, H⟩ := H
      replace H : (truantref02_Word.j0 k a0 t104) = some r := H
      have A9 := Aside0.mk A90
      clear A90
      have H' := Aside0.mk H
      clear H
      have p6 : 0 ≤ (0 : Int) := (by omega)
      have q6 : 0 < a0.size := (by have : (0 : Int) < (a0.size : Int) := of_decide_eq_true (by first | (with_reducible assumption) | assumption); omega)
      have hx6 : ∀ h : 0 < a0.size, ((a0[0]'h).toNat : Int) = bt a0 0 := bt_at a0 0
      clear p6
      have qi6 : (0 < (a0.size : Int)) = True := eq_true (of_decide_eq_true (by first | (with_reducible assumption) | assumption))
      replace q6 := eq_true q6
      go_wp2_with (first | (go_at_call 95; (with_reducible refine (truantref02_letter.calls (bt a0 0) true _ A7.out).mono ?_); rintro e w' ⟨rfl, ⟨nd, rfl⟩⟩) | (go_at_call 96; (with_reducible refine (truantref02_Key.calls a0 t104 _ A9.out).mono ?_); rintro e w10 ⟨rfl, hb⟩; have n0_ := Aside0.mk (below_step (by repeat (first | (with_reducible first | exact HB.out | apply below_alloc | apply pw_below_drewN | apply below_drew1) | exact HB.out)) hb); clear HB; have HB := n0_; clear n0_; (try clear hb); (try clear hb2); (try clear hk); (try clear hi)))
      go_meet
      case rel => exact ⟨_, (t104), (by first | rfl | (simp; done) | (simp [*]; done)), H', ⟨by first | omega | exact Nat.le_refl _⟩, ⟨by repeat (first | (with_reducible first | exact HB.out | apply below_alloc | apply pw_below_drewN | apply below_drew1) | exact HB.out)⟩⟩
     ·replace c8 := Bool.eq_false_iff.mpr c8
      subst c8
      have H1 : (truantref02_Word.j0 k a0 true) = some r := by rw [if_neg (show ¬ (false = true) by decide)] at H; exact H
      clear H
      have H := H1
      clear H1
      have H' := Aside0.mk H
      clear H
      have p6 : 0 ≤ (0 : Int) := (by omega)
      have q6 : 0 < a0.size := (by have : (0 : Int) < (a0.size : Int) := of_decide_eq_true (by first | (with_reducible assumption) | assumption); omega)
      have hx6 : ∀ h : 0 < a0.size, ((a0[0]'h).toNat : Int) = bt a0 0 := bt_at a0 0
      clear p6
      have qi6 : (0 < (a0.size : Int)) = True := eq_true (of_decide_eq_true (by first | (with_reducible assumption) | assumption))
      replace q6 := eq_true q6
      go_wp2_with (first | (go_at_call 95; (with_reducible refine (truantref02_letter.calls (bt a0 0) false _ A7.out).mono ?_); rintro e w' ⟨rfl, ⟨nd, rfl⟩⟩))
      go_meet
      case rel => exact ⟨_, (true), (by first | rfl | (simp; done) | (simp [*]; done)), H', ⟨by first | omega | exact Nat.le_refl _⟩, ⟨by repeat (first | (with_reducible first | exact HB.out | apply below_alloc | apply pw_below_drewN | apply below_drew1) | exact HB.out)⟩⟩
    ·rw [if_neg c5] at H
     exact absurd H (by simp)
 case rest =>
  clear HC2
  try clear p2
  try clear c3
  try clear c3b0
  try clear c3b1
  try clear c4
  try clear c4b0
  try clear c4b1
  try clear c5
  try clear c5b0
  try clear c5b1
  try clear p6
  try clear q6
  try clear hx6
  try clear qi6
  try clear c7
  try clear c8
  try clear p6
  try clear q6
  obtain ⟨kq, x21_1, rfl, HA, HJ1, HB⟩ := hcut
  cases kq with
  | zero => exact absurd HA.out (by simp [truantref02_Word.j0])
  | succ kj1 =>
   have H := HA.out
   clear HA
   simp only [truantref02_Word.j0] at H
   by_cases c11 : x21_1 = true
   ·subst c11
    have H1 : (some false) = some r := by rw [if_pos rfl] at H; exact H
    clear H
    have H := H1
    clear H1
    obtain rfl := Option.some.inj H
    go_wp2
    go_ret
    exact ⟨by first | rfl | (simp [errW_none, errW_some] <;> rfl) | (simp [*, errW_none, errW_some] <;> rfl), by repeat (first | (with_reducible first | exact HB.out | apply below_alloc | apply pw_below_drewN | apply below_drew1) | exact HB.out)⟩
   ·replace c11 := Bool.eq_false_iff.mpr c11
    subst c11
    have H1 : (truantref02_Word.l0 kj1 a0 0) = some r := by rw [if_neg (show ¬ (false = true) by decide)] at H; exact H
    clear H
    have H := H1
    clear H1
    have H' := Aside0.mk H
    clear H
    go_wp2
    go_loopg [3] kj1 (fun kq v3 w' => ∃ (x3_2 : Int), v3 = .int .i64 x3_2 ∧ Aside0 (truantref02_Word.l0 kq a0 x3_2 = some r) ∧ Aside0 (kq ≤ kj1) ∧ Aside0 (Below w.heap.size w w'))
    case atStart => exact ⟨(0), (by first | rfl | (simp; done) | (simp [*]; done)), H', ⟨Nat.le_refl _⟩, ⟨by repeat (first | (with_reducible first | exact HB.out | apply below_alloc | apply pw_below_drewN | apply below_drew1) | exact HB.out)⟩⟩
    case round =>
     clear H'
     try clear c1
     try clear p2
     try clear c3
     try clear c3b0
     try clear c3b1
     try clear c4
     try clear c4b0
     try clear c4b1
     try clear c5
     try clear c5b0
     try clear c5b1
     try clear p6
     try clear q6
     try clear hx6
     try clear qi6
     try clear c7
     try clear c8
     try clear c11
     try clear p2
     try clear p6
     try clear q6
     obtain ⟨x3_2, rfl, HA, HK2, HB⟩ := hrel
     cases gk with
     | zero => exact absurd HA.out (by simp [truantref02_Word.l0])
     | succ k2 =>
      have H := HA.out
      clear HA
      simp only [truantref02_Word.l0] at H
      by_cases c12 : x3_2 < (a0.size : Int)
      ·rw [if_pos c12] at H
       have c12b0 : decide (x3_2 < (a0.size : Int)) = true := decide_eq_true c12
       clear c12
       by_cases c13 : 0 ≤ x3_2
       ·rw [if_pos c13] at H
        have c13b0 : decide (0 ≤ x3_2) = true := decide_eq_true c13
        clear c13
        replace H := Option.bind_eq_some_iff.mp H
        obtain ⟨t105, A150, H⟩ := H
        replace H : (if t105 = true then (truantref02_Word.l0 k2 a0 (wrap64 (x3_2 + 1))) else ((truantref02_digit.f (bt a0 x3_2)).bind fun t106 => (if t106 = true then (truantref02_Word.l0 k2 a0 (wrap64 (x3_2 + 1))) else (some false)))) = some r := H
        have A15 := Aside0.mk A150
        clear A150
        by_cases c16 : t105 = true
        ·subst c16
         have H1 : (truantref02_Word.l0 k2 a0 (wrap64 (x3_2 + 1))) = some r := by rw [if_pos rfl] at H; exact H
         clear H
         have H := H1
         clear H1
         have H' := Aside0.mk H
         clear H
         have p14 : 0 ≤ (x3_2 : Int) := of_decide_eq_true (by first | (with_reducible assumption) | assumption)
         have q14 : x3_2 < (a0.size : Int) := of_decide_eq_true (by first | (with_reducible assumption) | assumption)
         have hx14 := bt_at a0 x3_2
         replace p14 := eq_true p14
         replace q14 := eq_true q14
         go_wp2_with (first | ((with_reducible refine gate_callee (f := 95) rfl ?_); refine goesL_ (some 31) rfl rfl Try.func95 (by kernel_rfl) rfl #[.int .u8 (bt a0 x3_2)] rfl (by (try simp only [List.map_toArray, List.map_cons, List.map_nil]); first | done | rfl | (simp only [List.length_drop, List.length_take]; rfl)) ?_; (with_reducible refine (truantref02_letter.calls (bt a0 x3_2) true _ A15.out).mono ?_); rintro e w' ⟨rfl, ⟨nd, rfl⟩⟩; refine ⟨_, rfl, ?_⟩))
         go_roundg k2
         case measure => have := HJ1.out; have := HK2.out; omega
         case rel => exact ⟨(wrap64 (x3_2 + 1)), (by first | rfl | (simp; done) | (simp [*]; done)), H', ⟨by have := HJ1.out; have := HK2.out; omega⟩, ⟨by repeat (first | (with_reducible first | exact HB.out | apply below_alloc | apply pw_below_drewN | apply below_drew1) | exact HB.out)⟩⟩
        ·replace c16 := Bool.eq_false_iff.mpr c16
         subst c16
         have H1 : ((truantref02_digit.f (bt a0 x3_2)).bind fun t106 => (if t106 = true then (truantref02_Word.l0 k2 a0 (wrap64 (x3_2 + 1))) else (some false))) = some r := by rw [if_neg (show ¬ (false = true) by decide)] at H; exact H
         clear H
         have H := H1
         clear H1
         replace H := Option.bind_eq_some_iff.mp H
         obtain ⟨t106, A180, H⟩ := H
         replace H : (if t106 = true then (truantref02_Word.l0 k2 a0 (wrap64 (x3_2 + 1))) else (some false)) = some r := H
         have A18 := Aside0.mk A180
         clear A180
         by_cases c19 : t106 = true
         ·subst c19
          have H1 : (truantref02_Word.l0 k2 a0 (wrap64 (x3_2 + 1))) = some r := by rw [if_pos rfl] at H; exact H
          clear H
          have H := H1
          clear H1
          have H' := Aside0.mk H
          clear H
          have p14 : 0 ≤ (x3_2 : Int) := of_decide_eq_true (by first | (with_reducible assumption) | assumption)
          have q14 : x3_2 < (a0.size : Int) := of_decide_eq_true (by first | (with_reducible assumption) | assumption)
          have hx14 := bt_at a0 x3_2
          replace p14 := eq_true p14
          replace q14 := eq_true q14
          go_wp2_with (first | ((with_reducible refine gate_callee (f := 95) rfl ?_); refine goesL_ (some 31) rfl rfl Try.func95 (by kernel_rfl) rfl #[.int .u8 (bt a0 x3_2)] rfl (by (try simp only [List.map_toArray, List.map_cons, List.map_nil]); first | done | rfl | (simp only [List.length_drop, List.length_take]; rfl)) ?_; (with_reducible refine (truantref02_letter.calls (bt a0 x3_2) false _ A15.out).mono ?_); rintro e w' ⟨rfl, ⟨nd, rfl⟩⟩; refine ⟨_, rfl, ?_⟩; have p17 : 0 ≤ (x3_2 : Int) := of_decide_eq_true (by first | (with_reducible assumption) | assumption); have q17 : x3_2 < (a0.size : Int) := of_decide_eq_true (by first | (with_reducible assumption) | assumption); have hx17 := bt_at a0 x3_2; replace p17 := eq_true p17; replace q17 := eq_true q17) | (go_at_call 97; (with_reducible refine (truantref02_digit.calls (bt a0 x3_2) true _ A18.out).mono ?_); rintro e w' ⟨rfl, ⟨nd, rfl⟩⟩))
          go_roundg k2
          case measure => have := HJ1.out; have := HK2.out; omega
          case rel => exact ⟨(wrap64 (x3_2 + 1)), (by first | rfl | (simp; done) | (simp [*]; done)), H', ⟨by have := HJ1.out; have := HK2.out; omega⟩, ⟨by repeat (first | (with_reducible first | exact HB.out | apply below_alloc | apply pw_below_drewN | apply below_drew1) | exact HB.out)⟩⟩
         ·replace c19 := Bool.eq_false_iff.mpr c19
          subst c19
          have H1 : (some false) = some r := by rw [if_neg (show ¬ (false = true) by decide)] at H; exact H
          clear H
          have H := H1
          clear H1
          obtain rfl := Option.some.inj H
          have p14 : 0 ≤ (x3_2 : Int) := of_decide_eq_true (by first | (with_reducible assumption) | assumption)
          have q14 : x3_2 < (a0.size : Int) := of_decide_eq_true (by first | (with_reducible assumption) | assumption)
          have hx14 := bt_at a0 x3_2
          replace p14 := eq_true p14
          replace q14 := eq_true q14
          go_wp2_with (first | ((with_reducible refine gate_callee (f := 95) rfl ?_); refine goesL_ (some 31) rfl rfl Try.func95 (by kernel_rfl) rfl #[.int .u8 (bt a0 x3_2)] rfl (by (try simp only [List.map_toArray, List.map_cons, List.map_nil]); first | done | rfl | (simp only [List.length_drop, List.length_take]; rfl)) ?_; (with_reducible refine (truantref02_letter.calls (bt a0 x3_2) false _ A15.out).mono ?_); rintro e w' ⟨rfl, ⟨nd, rfl⟩⟩; refine ⟨_, rfl, ?_⟩; have p17 : 0 ≤ (x3_2 : Int) := of_decide_eq_true (by first | (with_reducible assumption) | assumption); have q17 : x3_2 < (a0.size : Int) := of_decide_eq_true (by first | (with_reducible assumption) | assumption); have hx17 := bt_at a0 x3_2; replace p17 := eq_true p17; replace q17 := eq_true q17) | (go_at_call 97; (with_reducible refine (truantref02_digit.calls (bt a0 x3_2) false _ A18.out).mono ?_); rintro e w' ⟨rfl, ⟨nd, rfl⟩⟩))
          go_ret
          exact ⟨by first | rfl | (simp [errW_none, errW_some] <;> rfl) | (simp [*, errW_none, errW_some] <;> rfl), by repeat (first | (with_reducible first | exact HB.out | apply below_alloc | apply pw_below_drewN | apply below_drew1) | exact HB.out)⟩
       ·rw [if_neg c13] at H
        exact absurd H (by simp)
      ·rw [if_neg c12] at H
       have c12b0 : decide (x3_2 < (a0.size : Int)) = false := decide_eq_false c12
       clear c12
       obtain rfl := Option.some.inj H
       go_wp2
       go_ret
       exact ⟨by first | rfl | (simp [errW_none, errW_some] <;> rfl) | (simp [*, errW_none, errW_some] <;> rfl), by repeat (first | (with_reducible first | exact HB.out | apply below_alloc | apply pw_below_drewN | apply below_drew1) | exact HB.out)⟩
/-! ### truantref03_Find: function 19 -/
def truantref03_Find.l0 : Nat → List (S43) → ByteArray → Int → Option (Int)
 | 0, _, _, _ => none
 | k + 1, x0, x1, x5 => if x5 < (x0.length : Int) then (if 0 ≤ x5 then (if ((rd_T43 x0 x5).f0).toList = x1.toList then (some x5) else (truantref03_Find.l0 k x0 x1 (wrap64 (x5 + 1)))) else (none)) else (some (-1))
def truantref03_Find.f (k : Nat) (l0 : List (S43)) (a1 : ByteArray) : Option (Int) := truantref03_Find.l0 k l0 a1 0
theorem truantref03_Find.mono_l : ∀ k, (∀ y0 y1 y2, LeO (truantref03_Find.l0 k y0 y1 y2) (truantref03_Find.l0 (k + 1) y0 y1 y2))
 | 0 => fun _ _ _ r h => by simp [truantref03_Find.l0] at h
 | k + 1 => by
  have ih0 := truantref03_Find.mono_l k
  ·intro y0 y1 y2
   unfold truantref03_Find.l0
   repeat' first
   | (with_reducible exact ih0 _ _ _)
   | (with_reducible exact LeO.refl _)
   | (with_reducible exact LeO.none _)
   | (with_reducible refine LeO.ite ?_ ?_)
   | (with_reducible refine LeO.bind ?_ (fun _ => ?_))
   | exact ih0 _ _ _
   | exact LeO.none _
   | refine LeO.ite ?_ ?_
   | refine LeO.bind ?_ (fun _ => ?_)
theorem truantref03_Find.mono : ∀ a0 a1 k, LeO (truantref03_Find.f k a0 a1) (truantref03_Find.f (k + 1) a0 a1) := by
 intro a0 a1 k
 have ih0 := truantref03_Find.mono_l k
 unfold truantref03_Find.f
 repeat' first
   | (with_reducible exact ih0 _ _ _)
   | (with_reducible exact LeO.refl _)
   | (with_reducible exact LeO.none _)
   | (with_reducible refine LeO.ite ?_ ?_)
   | (with_reducible refine LeO.bind ?_ (fun _ => ?_))
   | exact ih0 _ _ _
   | exact LeO.none _
   | refine LeO.ite ?_ ?_
   | refine LeO.bind ?_ (fun _ => ?_)
set_option maxHeartbeats 8000000 in
set_option maxRecDepth 100000 in
theorem truantref03_Find.calls (k : Nat) (A0 : Option Addr) (c0 : Nat) (l0 : List (S43)) (a1 : ByteArray) (r : Int) (w : World) (hr0 : Kd.C k43 w A0 l0.length l0) (hc0 : l0.length ≤ c0) (h : truantref03_Find.f k l0 a1 = some r) :
  Calls Try.prog 19 #[.slice A0 l0.length c0, .string a1] w fun e w' => e = .returned (.int .i64 r) ∧ Drawn0 w w' := by
 have HR0 := Aside0.mk hr0
 have HC0 := Aside0.mk hc0
 clear hr0 hc0
 have H : (truantref03_Find.l0 k l0 a1 0) = some r := h
 clear h
 have H' := Aside0.mk H
 clear H
 go_enter Try.func19, Try.ntmps19
 go_wp2
 go_loopg [5] k (fun kq v5 w' => ∃ (x5_1 : Int), v5 = .int .i64 x5_1 ∧ Aside0 (truantref03_Find.l0 kq l0 a1 x5_1 = some r) ∧ Aside0 (kq ≤ k) ∧ Drawn0 w w')
 case atStart => exact ⟨(0), (by first | rfl | (simp; done) | (simp [*]; done)), H', ⟨Nat.le_refl _⟩, by repeat (first | exact Drawn0.refl _ | apply Drawn0.step)⟩
 case round =>
  clear H'
  try clear c1
  try clear p2
  obtain ⟨x5_1, rfl, HA, HK1, ⟨m1, rfl⟩⟩ := hrel
  cases gk with
  | zero => exact absurd HA.out (by simp [truantref03_Find.l0])
  | succ k1 =>
   have H := HA.out
   clear HA
   simp only [truantref03_Find.l0] at H
   by_cases c3 : x5_1 < (l0.length : Int)
   ·rw [if_pos c3] at H
    have c3b0 : decide (x5_1 < (l0.length : Int)) = true := decide_eq_true c3
    clear c3
    by_cases c4 : 0 ≤ x5_1
    ·rw [if_pos c4] at H
     have c4b0 : decide (0 ≤ x5_1) = true := decide_eq_true c4
     clear c4
     by_cases c5 : ((rd_T43 l0 x5_1).f0).toList = a1.toList
     ·rw [if_pos c5] at H
      have c5b0 : (((rd_T43 l0 x5_1).f0).toList == a1.toList) = true := beq_iff_eq.mpr c5
      have c5b1 : (((rd_T43 l0 x5_1).f0).toList != a1.toList) = false := bne_eq_false_iff_eq.mpr c5
      clear c5
      obtain rfl := Option.some.inj H
      have p101 : 0 ≤ (x5_1 : Int) := of_decide_eq_true (by first | (with_reducible assumption) | assumption)
      have q101 : x5_1 < (l0.length : Int) := of_decide_eq_true (by first | (with_reducible assumption) | assumption)
      obtain ⟨ad101, A101_1, c101_1, e101, hx101_0, hx101_1, hl101_1, hi101_1⟩ := at_T43 HR0.out x5_1 p101 q101
      cases e101
      have HR101_1 := Aside0.mk hi101_1
      have HC101_1 := Aside0.mk hl101_1
      clear hi101_1 hl101_1
      replace p101 := eq_true p101
      replace q101 := eq_true q101
      go_wp2
      go_ret
      exact ⟨by first | rfl | (simp; done) | (simp [*]; done), by repeat (first | exact Drawn0.refl _ | apply Drawn0.step)⟩
     ·rw [if_neg c5] at H
      have c5b0 : (((rd_T43 l0 x5_1).f0).toList == a1.toList) = false := beq_eq_false_iff_ne.mpr c5
      have c5b1 : (((rd_T43 l0 x5_1).f0).toList != a1.toList) = true := bne_iff_ne.mpr c5
      have H' := Aside0.mk H
      clear H
      have p101 : 0 ≤ (x5_1 : Int) := of_decide_eq_true (by first | (with_reducible assumption) | assumption)
      have q101 : x5_1 < (l0.length : Int) := of_decide_eq_true (by first | (with_reducible assumption) | assumption)
      obtain ⟨ad101, A101_1, c101_1, e101, hx101_0, hx101_1, hl101_1, hi101_1⟩ := at_T43 HR0.out x5_1 p101 q101
      cases e101
      have HR101_1 := Aside0.mk hi101_1
      have HC101_1 := Aside0.mk hl101_1
      clear hi101_1 hl101_1
      replace p101 := eq_true p101
      replace q101 := eq_true q101
      go_wp2
      go_roundg k1
      case measure => have := HK1.out; omega
      case rel => exact ⟨(wrap64 (x5_1 + 1)), (by first | rfl | (simp; done) | (simp [*]; done)), H', ⟨by have := HK1.out; omega⟩, by repeat (first | exact Drawn0.refl _ | apply Drawn0.step)⟩
    ·rw [if_neg c4] at H
     exact absurd H (by simp)
   ·rw [if_neg c3] at H
    have c3b0 : decide (x5_1 < (l0.length : Int)) = false := decide_eq_false c3
    clear c3
    obtain rfl := Option.some.inj H
    go_wp2
    go_ret
    exact ⟨by first | rfl | (simp; done) | (simp [*]; done), by repeat (first | exact Drawn0.refl _ | apply Drawn0.step)⟩
end Go.Proofs.Ytonmlncejikbiaa.Q
/- The plain law of layer 3, kind: what the printed functions come to. -/
namespace Go.Proofs.Ytonmlncejikbiaa.Q
open Go.RowKit Go.Proofs.YtonmlncejikbiaaW.PrintWords Go.Proofs.YtonmlncejikbiaaW.PrintLast Go.Proofs.YtonmlncejikbiaaW.PrintMore
set_option linter.unusedVariables false
set_option linter.unusedSimpArgs false
/-! words -/
theorem index_ev (l : List ByteArray) (s : ByteArray) (hm : l.length ≤ 9223372036854775807) (d : Nat) : ∀ i : Nat, i ≤ l.length → l.length - i = d → (∀ j : Nat, j < i → keyIs s (l.getD j ByteArray.empty) = false) →
  Ev (fun k => slices_Index_string_string.l0 k l s (l.length : Int) (i : Int)) (findR (keyIs s) l) := by
 induction d with
 | zero =>
  intro i h0 hd h
  refine Ev.step (fun k => rfl) (Ev.neg (by omega) ?_)
  rw [find_none (z := ByteArray.empty) (fun j hj => h j (by omega))]
  exact Ev.now _
 | succ d ih =>
  intro i h0 hd h
  refine Ev.step (fun k => rfl) (Ev.pos (by omega) (Ev.pos (by omega) (Ev.pos (by omega) ?_)))
  by_cases e : keyIs s (l.getD i ByteArray.empty) = true
  ·have e2 : s.toList = (rdOf ByteArray.empty l (i : Int)).toList := (beq_iff_eq.mp e).symm
   refine Ev.pos e2 ?_
   rw [find_last (z := ByteArray.empty) (k := i) (by omega) h e]
   exact Ev.now _
  ·have e2 : ¬ s.toList = (rdOf ByteArray.empty l (i : Int)).toList := fun q => e (beq_iff_eq.mpr q.symm)
   refine Ev.neg e2 ?_
   rw [wrap_succ (by omega) (by omega)]
   exact ih (i + 1) (by omega) (by omega) (all_succ (P := fun j => keyIs s (l.getD j ByteArray.empty) = false) h (by simpa using e))
def keyB (s : ByteArray) : Bool := decide (0 ≤ findR (keyIs s) keyList)
theorem isKey_ev (s : ByteArray) : Ev (fun k => lex_IsKey.f k s) (keyB s) := by
 have h := index_ev keyList s (by decide) 16 0 (by decide) (by decide) (fun j hj => absurd hj (by omega))
 have h2 : Ev (fun k => slices_Contains_string_string.f k keyList s) (keyB s) := Ev.bind h (Ev.now _)
 exact Ev.one (a := lex_keys.f) (b := keyList) rfl (Ev.bind h2 (Ev.now _))
def wordB (s : ByteArray) : Bool := nameB s && (decide (s.size ≤ 12) && !keyB s)
theorem isWord_ev (s : ByteArray) (hs : s.size ≤ 9223372036854775807) : Ev (fun k => lex_IsWord.f k s) (wordB s) := by
 refine Ev.one (a := lex_isName.f s) (b := nameB s) (by unfold lex_isName.f; rw [if_pos hs]) ?_
 unfold wordB
 cases nameB s with
 | false => exact Ev.neg (by decide) (Ev.now _)
 | true =>
  refine Ev.pos rfl ?_
  by_cases h : s.size ≤ 12
  ·refine Ev.pos (by omega) (Ev.eq (Ev.bind (isKey_ev s) (Ev.now _)) (by simp [h]))
  ·refine Ev.neg (by omega) (Ev.eq (Ev.now _) (by simp [h]))
/-! types -/
/-- Behind the star, if that is a word. -/
def rest (t : ByteArray) : ByteArray := t.extract 1 t.size
def starB (t : ByteArray) : Bool := decide (0 < t.size) && (bt t 0 == 42)
theorem cutPrefix_one (t : ByteArray) : strings_CutPrefix.f t (⟨#[42]⟩ : ByteArray) = some (if starB t = true then (rest t, true) else (t, false)) := by
 have e1 : ((⟨#[42]⟩ : ByteArray).size : Int) = 1 := rfl
 have e2 : (⟨#[42]⟩ : ByteArray).toList = [42] := by rw [ByteArray.toList_eq]
 unfold strings_CutPrefix.f stringslite_CutPrefix.f stringslite_HasPrefix.f
 rw [e1, e2]
 by_cases h0 : 0 < t.size
 ·have hb : ((t.extract 0 (1 : Int).toNat).toList == [42]) = starB t := by
   obtain ⟨⟨l⟩⟩ := t
   cases l with
   | nil => simp [ByteArray.size] at h0
   | cons x l =>
    have e3 : (ByteArray.extract ⟨⟨x :: l⟩⟩ 0 (1 : Int).toNat).toList = [x] := by
     rw [Lib.extract_toList]; rfl
    have e4 : bt ⟨⟨x :: l⟩⟩ 0 = (x.toNat : Int) := (bt_at ⟨⟨x :: l⟩⟩ 0 (by simpa using h0)).symm
    unfold starB
    rw [e3, e4]
    simp only [h0, decide_true, Bool.true_and]
    by_cases hx : x = 42
    ·subst hx; rfl
    ·rw [beq_eq_false_iff_ne.mpr (by simpa using hx), beq_eq_false_iff_ne.mpr]
     intro q
     apply hx
     apply UInt8.toNat_inj.mp
     have e42 : (42 : UInt8).toNat = 42 := rfl
     omega
  rw [if_pos (by omega), if_pos (by omega), if_pos (by omega), hb]
  simp only [Option.bind_some]
  cases starB t with
  | true => rw [if_pos rfl, if_pos (by omega), if_pos (by omega)]; rfl
  | false => rw [if_neg (by decide)]; rfl
 ·have : starB t = false := by unfold starB; simp [h0]
  rw [if_neg (by omega), this]
  rfl
end Go.Proofs.Ytonmlncejikbiaa.Q
namespace Go.Proofs.Ytonmlncejikbiaa.Q
open Go.RowKit Go.Proofs.YtonmlncejikbiaaW.PrintWords Go.Proofs.YtonmlncejikbiaaW.PrintLast Go.Proofs.YtonmlncejikbiaaW.PrintMore
attribute [local go_sem] max2_int min2_int max_two min_two max_three min_three max_four min_four   -- for this text's walks alone
set_option linter.unusedVariables false
set_option linter.unusedSimpArgs false
/-! ### truantref03_Is: function 22 -/
def truantref03_Is.f (k : Nat) (l0 : List (S43)) (a1 : ByteArray) : Option (Bool) := if a1.toList = ([105, 110, 116] : List UInt8) then (some true) else (if a1.toList = ([98, 111, 111, 108] : List UInt8) then (some true) else (if (a1.size : Int) > 0 then (if 0 < (a1.size : Int) then (if (bt a1 0) = 42 then (if 1 ≤ (a1.size : Int) then ((truantref03_Find.f k l0 (a1.extract 1 a1.size)).bind fun t102 => (some (decide (t102 ≥ 0)))) else (none)) else (some false)) else (none)) else (some false)))
theorem truantref03_Is.mono : ∀ a0 a1 k, LeO (truantref03_Is.f k a0 a1) (truantref03_Is.f (k + 1) a0 a1) := by
 intro a0 a1 k
 unfold truantref03_Is.f
 repeat' first
   | (with_reducible exact truantref03_Find.mono _ _ _)
   | (with_reducible exact LeO.refl _)
   | (with_reducible exact LeO.none _)
   | (with_reducible refine LeO.ite ?_ ?_)
   | (with_reducible refine LeO.bind ?_ (fun _ => ?_))
   | exact truantref03_Find.mono _ _ _
   | exact LeO.none _
   | refine LeO.ite ?_ ?_
   | refine LeO.bind ?_ (fun _ => ?_)
set_option maxHeartbeats 8000000 in
set_option maxRecDepth 100000 in
theorem truantref03_Is.calls (k : Nat) (A0 : Option Addr) (c0 : Nat) (l0 : List (S43)) (a1 : ByteArray) (r : Bool) (w : World) (hr0 : Kd.C k43 w A0 l0.length l0) (hc0 : l0.length ≤ c0) (h : truantref03_Is.f k l0 a1 = some r) :
  Calls Try.prog 22 #[.slice A0 l0.length c0, .string a1] w fun e w' => e = .returned (.bool r) ∧ Drawn0 w w' := by
 have HR0 := Aside0.mk hr0
 have HC0 := Aside0.mk hc0
 clear hr0 hc0
 have H : (if a1.toList = ([105, 110, 116] : List UInt8) then (some true) else (if a1.toList = ([98, 111, 111, 108] : List UInt8) then (some true) else (if (a1.size : Int) > 0 then (if 0 < (a1.size : Int) then (if (bt a1 0) = 42 then (if 1 ≤ (a1.size : Int) then ((truantref03_Find.f k l0 (a1.extract 1 a1.size)).bind fun t102 => (some (decide (t102 ≥ 0)))) else (none)) else (some false)) else (none)) else (some false)))) = some r := h
 clear h
 by_cases c3 : a1.toList = ([105, 110, 116] : List UInt8)
 ·rw [if_pos c3] at H
  have c3b0 : (a1.toList == ([105, 110, 116] : List UInt8)) = true := beq_iff_eq.mpr c3
  have c3b1 : (a1.toList != ([105, 110, 116] : List UInt8)) = false := bne_eq_false_iff_eq.mpr c3
  clear c3
  obtain rfl := Option.some.inj H
  go_enter Try.func22, Try.ntmps22
  go_wp2
  go_ret
  exact ⟨by first | rfl | (simp; done) | (simp [*]; done), by repeat (first | exact Drawn0.refl _ | apply Drawn0.step)⟩
 ·rw [if_neg c3] at H
  have c3b0 : (a1.toList == ([105, 110, 116] : List UInt8)) = false := beq_eq_false_iff_ne.mpr c3
  have c3b1 : (a1.toList != ([105, 110, 116] : List UInt8)) = true := bne_iff_ne.mpr c3
  by_cases c4 : a1.toList = ([98, 111, 111, 108] : List UInt8)
  ·rw [if_pos c4] at H
   have c4b0 : (a1.toList == ([98, 111, 111, 108] : List UInt8)) = true := beq_iff_eq.mpr c4
   have c4b1 : (a1.toList != ([98, 111, 111, 108] : List UInt8)) = false := bne_eq_false_iff_eq.mpr c4
   clear c4
   obtain rfl := Option.some.inj H
   go_enter Try.func22, Try.ntmps22
   go_wp2
   go_ret
   exact ⟨by first | rfl | (simp; done) | (simp [*]; done), by repeat (first | exact Drawn0.refl _ | apply Drawn0.step)⟩
  ·rw [if_neg c4] at H
   have c4b0 : (a1.toList == ([98, 111, 111, 108] : List UInt8)) = false := beq_eq_false_iff_ne.mpr c4
   have c4b1 : (a1.toList != ([98, 111, 111, 108] : List UInt8)) = true := bne_iff_ne.mpr c4
   by_cases c5 : (a1.size : Int) > 0
   ·rw [if_pos c5] at H
    have c5b0 : decide (0 < (a1.size : Int)) = true := decide_eq_true c5
    have c5b1 : decide (0 < a1.size) = true := decide_eq_true (by omega)
    clear c5
    by_cases c6 : 0 < (a1.size : Int)
    ·rw [if_pos c6] at H
     have c6b0 : decide (0 < (a1.size : Int)) = true := decide_eq_true c6
     have c6b1 : decide (0 < a1.size) = true := decide_eq_true (by omega)
     clear c6
     by_cases c8 : (bt a1 0) = 42
     ·rw [if_pos c8] at H
      have c8b0 : ((bt a1 0) == 42) = true := beq_iff_eq.mpr c8
      have c8b1 : ((bt a1 0) != 42) = false := bne_eq_false_iff_eq.mpr c8
      clear c8
      by_cases c9 : 1 ≤ (a1.size : Int)
      ·rw [if_pos c9] at H
       have c9b0 := eq_true c9
       have c9b1 : decide (1 ≤ (a1.size : Int)) = true := decide_eq_true c9
       clear c9
       replace H := Option.bind_eq_some_iff.mp H
       obtain ⟨t102, A100, H⟩ := H
       replace H : (some (decide (t102 ≥ 0))) = some r := H
       have A10 := Aside0.mk A100
       clear A100
       obtain rfl := Option.some.inj H
       have p7 : 0 ≤ (0 : Int) := (by omega)
       have q7 : 0 < a1.size := (by have : (0 : Int) < (a1.size : Int) := of_decide_eq_true (by first | (with_reducible assumption) | assumption); omega)
       have hx7 : ∀ h : 0 < a1.size, ((a1[0]'h).toNat : Int) = bt a1 0 := bt_at a1 0
       clear p7
       have qi7 : (0 < (a1.size : Int)) = True := eq_true (of_decide_eq_true (by first | (with_reducible assumption) | assumption))
       replace q7 := eq_true q7
       go_enter Try.func22, Try.ntmps22
       go_wp2_with (first | (go_at_call 19; (with_reducible refine (truantref03_Find.calls k _ _ l0 (a1.extract 1 a1.size) t102 _ ?side1 ?side2 A10.out).mono ?_); (case side1 => repeat (first | exact HR0.out | (with_reducible refine Kd.C_alloc ?_ _) | (with_reducible refine Kd.C_drewN ?_ _) | (with_reducible refine Kd.C_drew ?_))); (case side2 => exact HC0.out); rintro e w' ⟨rfl, ⟨nd, rfl⟩⟩))
       go_ret
       exact ⟨by first | rfl | (simp; done) | (simp [*]; done), by repeat (first | exact Drawn0.refl _ | apply Drawn0.step)⟩
      ·rw [if_neg c9] at H
       exact absurd H (by simp)
     ·rw [if_neg c8] at H
      have c8b0 : ((bt a1 0) == 42) = false := beq_eq_false_iff_ne.mpr c8
      have c8b1 : ((bt a1 0) != 42) = true := bne_iff_ne.mpr c8
      obtain rfl := Option.some.inj H
      have p7 : 0 ≤ (0 : Int) := (by omega)
      have q7 : 0 < a1.size := (by have : (0 : Int) < (a1.size : Int) := of_decide_eq_true (by first | (with_reducible assumption) | assumption); omega)
      have hx7 : ∀ h : 0 < a1.size, ((a1[0]'h).toNat : Int) = bt a1 0 := bt_at a1 0
      clear p7
      have qi7 : (0 < (a1.size : Int)) = True := eq_true (of_decide_eq_true (by first | (with_reducible assumption) | assumption))
      replace q7 := eq_true q7
      go_enter Try.func22, Try.ntmps22
      go_wp2
      go_ret
      exact ⟨by first | rfl | (simp; done) | (simp [*]; done), by repeat (first | exact Drawn0.refl _ | apply Drawn0.step)⟩
    ·rw [if_neg c6] at H
     exact absurd H (by simp)
   ·rw [if_neg c5] at H
    have c5b0 : decide (0 < (a1.size : Int)) = false := decide_eq_false c5
    have c5b1 : decide (0 < a1.size) = false := decide_eq_false (by omega)
    clear c5
    obtain rfl := Option.some.inj H
    go_enter Try.func22, Try.ntmps22
    go_wp2
    go_ret
    exact ⟨by first | rfl | (simp; done) | (simp [*]; done), by repeat (first | exact Drawn0.refl _ | apply Drawn0.step)⟩
end Go.Proofs.Ytonmlncejikbiaa.Q
