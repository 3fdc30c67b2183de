/- What the row of UIrUses rests on, part 1: contracts of the functions that it reaches, and the plain law. -/
import Derived.Test.YtkiiojgaaoaipaaDoorJUIrUses0
namespace Go.Proofs.YtkiiojgaaoaipaaDoor.Q
open Go.RowKit Go.Proofs.YtkiiojgaaoaipaaDoorW.PrintWords Go.Proofs.YtkiiojgaaoaipaaDoorW.PrintLast Go.Proofs.YtkiiojgaaoaipaaDoorW.PrintMore
attribute [local go_sem] max2_int min2_int max_two min_two max_three min_three max_four min_four   -- for this text's walks alone
set_option linter.unusedVariables false
set_option linter.unusedSimpArgs false
/-! ### truantref08_Line: function 26 -/
mutual
def truantref08_Line.j0 : Nat → Int → Bool → ByteArray → List ByteArray → ByteArray → List ByteArray → List (S47) → List (S53) → Option (ByteArray)
 | 0, _, _, _, _, _, _, _, _ => none
 | k + 1, x1, x26, x477000, x477001, x477002, x477003, x477004, x477005 => if x26 = true then (some (⟨#[]⟩ : ByteArray)) else (if 0 ≤ x1 then (if x1 < (x477004.length : Int) then ((truantref01_Text.f k x1).bind fun t481 => (if 1 + t481.size ≤ 9223372036854775807 then (if ((⟨#[118]⟩ : ByteArray) ++ t481).size + 3 ≤ 9223372036854775807 then ((truantref08_Word.f ((rd_T47 x477004 x1).f0)).bind fun t482 => (if (((⟨#[118]⟩ : ByteArray) ++ t481) ++ (⟨#[32, 61, 32]⟩ : ByteArray)).size + t482.size ≤ 9223372036854775807 then (if ((rd_T47 x477004 x1).f1).toList = ([] : List UInt8) then (truantref08_Line.j1 k ((((⟨#[118]⟩ : ByteArray) ++ t481) ++ (⟨#[32, 61, 32]⟩ : ByteArray)) ++ t482) ((rd_T47 x477004 x1).f0) ((rd_T47 x477004 x1).f1) ((rd_T47 x477004 x1).f2) ((rd_T47 x477004 x1).f3) ((rd_T47 x477004 x1).f4)) else (if ((((⟨#[118]⟩ : ByteArray) ++ t481) ++ (⟨#[32, 61, 32]⟩ : ByteArray)) ++ t482).size + 1 ≤ 9223372036854775807 then (if (((((⟨#[118]⟩ : ByteArray) ++ t481) ++ (⟨#[32, 61, 32]⟩ : ByteArray)) ++ t482) ++ (⟨#[32]⟩ : ByteArray)).size + ((rd_T47 x477004 x1).f1).size ≤ 9223372036854775807 then (truantref08_Line.j1 k ((((((⟨#[118]⟩ : ByteArray) ++ t481) ++ (⟨#[32, 61, 32]⟩ : ByteArray)) ++ t482) ++ (⟨#[32]⟩ : ByteArray)) ++ ((rd_T47 x477004 x1).f1)) ((rd_T47 x477004 x1).f0) ((rd_T47 x477004 x1).f1) ((rd_T47 x477004 x1).f2) ((rd_T47 x477004 x1).f3) ((rd_T47 x477004 x1).f4)) else (none)) else (none))) else (none))) else (none)) else (none))) else (none)) else (none))
def truantref08_Line.j1 : Nat → ByteArray → Int → ByteArray → List Int → Int → ByteArray → Option (ByteArray)
 | 0, _, _, _, _, _, _ => none
 | k + 1, x6, x481000, x481001, x481002, x481003, x481004 => if x481004.toList = ([] : List UInt8) then (truantref08_Line.j2 k x6 x481000 x481001 x481002 x481003 x481004) else (if x6.size + 1 ≤ 9223372036854775807 then (if (x6 ++ (⟨#[32]⟩ : ByteArray)).size + x481004.size ≤ 9223372036854775807 then (truantref08_Line.j2 k ((x6 ++ (⟨#[32]⟩ : ByteArray)) ++ x481004) x481000 x481001 x481002 x481003 x481004) else (none)) else (none))
def truantref08_Line.j2 : Nat → ByteArray → Int → ByteArray → List Int → Int → ByteArray → Option (ByteArray)
 | 0, _, _, _, _, _, _ => none
 | k + 1, x6, x481000, x481001, x481002, x481003, x481004 => if x6.size + 1 ≤ 9223372036854775807 then ((truantref01_Text.f k x481003).bind fun t483 => (if (x6 ++ (⟨#[32]⟩ : ByteArray)).size + t483.size ≤ 9223372036854775807 then (truantref08_Line.l0 k ((x6 ++ (⟨#[32]⟩ : ByteArray)) ++ t483) 0 x481000 x481001 x481002 x481003 x481004) else (none))) else (none)
def truantref08_Line.l0 : Nat → ByteArray → Int → Int → ByteArray → List Int → Int → ByteArray → Option (ByteArray)
 | 0, _, _, _, _, _, _, _ => none
 | k + 1, x6, x7, x481000, x481001, x481002, x481003, x481004 => if x7 < (x481002.length : Int) then (if x6.size + 2 ≤ 9223372036854775807 then (if 0 ≤ x7 then ((truantref01_Text.f k (rd x481002 x7)).bind fun t485 => (if (x6 ++ (⟨#[32, 118]⟩ : ByteArray)).size + t485.size ≤ 9223372036854775807 then (truantref08_Line.l0 k ((x6 ++ (⟨#[32, 118]⟩ : ByteArray)) ++ t485) (wrap64 (x7 + 1)) x481000 x481001 x481002 x481003 x481004) else (none))) else (none)) else (none)) else (some x6)
end
def truantref08_Line.f (k : Nat) (a0_0 : ByteArray) (l0_1 : List ByteArray) (a0_2 : ByteArray) (l0_3 : List ByteArray) (l0_4 : List (S47)) (l0_5 : List (S53)) (a1 : Int) : Option (ByteArray) := if a1 < 0 then (truantref08_Line.j0 k a1 true a0_0 l0_1 a0_2 l0_3 l0_4 l0_5) else (if a1 ≥ (l0_4.length : Int) then (truantref08_Line.j0 k a1 true a0_0 l0_1 a0_2 l0_3 l0_4 l0_5) else (if 0 ≤ a1 then (if a1 < (l0_4.length : Int) then ((truantref08_Word.f ((rd_T47 l0_4 a1).f0)).bind fun t478 => (truantref08_Line.j0 k a1 (t478.toList == ([] : List UInt8)) a0_0 l0_1 a0_2 l0_3 l0_4 l0_5)) else (none)) else (none)))
theorem truantref08_Line.mono_l : ∀ k, (∀ y0 y1 y2 y3 y4 y5 y6 y7, LeO (truantref08_Line.j0 k y0 y1 y2 y3 y4 y5 y6 y7) (truantref08_Line.j0 (k + 1) y0 y1 y2 y3 y4 y5 y6 y7)) ∧ (∀ y0 y1 y2 y3 y4 y5, LeO (truantref08_Line.j1 k y0 y1 y2 y3 y4 y5) (truantref08_Line.j1 (k + 1) y0 y1 y2 y3 y4 y5)) ∧ (∀ y0 y1 y2 y3 y4 y5, LeO (truantref08_Line.j2 k y0 y1 y2 y3 y4 y5) (truantref08_Line.j2 (k + 1) y0 y1 y2 y3 y4 y5)) ∧ (∀ y0 y1 y2 y3 y4 y5 y6, LeO (truantref08_Line.l0 k y0 y1 y2 y3 y4 y5 y6) (truantref08_Line.l0 (k + 1) y0 y1 y2 y3 y4 y5 y6))
 | 0 => ⟨fun _ _ _ _ _ _ _ _ r h => by simp [truantref08_Line.j0] at h, fun _ _ _ _ _ _ r h => by simp [truantref08_Line.j1] at h, fun _ _ _ _ _ _ r h => by simp [truantref08_Line.j2] at h, fun _ _ _ _ _ _ _ r h => by simp [truantref08_Line.l0] at h⟩
 | k + 1 => by
  obtain ⟨ih0, ih1, ih2, ih3⟩ := truantref08_Line.mono_l k
  refine ⟨?_, ?_, ?_, ?_⟩
  ·intro y0 y1 y2 y3 y4 y5 y6 y7
   unfold truantref08_Line.j0
   repeat' first
   | (with_reducible exact ih1 _ _ _ _ _ _)
   | (with_reducible exact truantref01_Text.mono _ _)
   | (with_reducible exact LeO.refl _)
   | (with_reducible refine LeO.ite ?_ ?_)
   | (with_reducible refine LeO.bind ?_ (fun _ => ?_))
  ·intro y0 y1 y2 y3 y4 y5
   unfold truantref08_Line.j1
   repeat' first
   | (with_reducible exact ih2 _ _ _ _ _ _)
   | (with_reducible exact LeO.refl _)
   | (with_reducible refine LeO.ite ?_ ?_)
  ·intro y0 y1 y2 y3 y4 y5
   unfold truantref08_Line.j2
   repeat' first
   | (with_reducible exact ih3 _ _ _ _ _ _ _)
   | (with_reducible exact truantref01_Text.mono _ _)
   | (with_reducible exact LeO.refl _)
   | (with_reducible refine LeO.ite ?_ ?_)
   | (with_reducible refine LeO.bind ?_ (fun _ => ?_))
  ·intro y0 y1 y2 y3 y4 y5 y6
   unfold truantref08_Line.l0
   repeat' first
   | (with_reducible exact ih3 _ _ _ _ _ _ _)
   | (with_reducible exact truantref01_Text.mono _ _)
   | (with_reducible exact LeO.refl _)
   | (with_reducible refine LeO.ite ?_ ?_)
   | (with_reducible refine LeO.bind ?_ (fun _ => ?_))
theorem truantref08_Line.mono : ∀ a0 a1 a2 a3 a4 a5 a6 k, LeO (truantref08_Line.f k a0 a1 a2 a3 a4 a5 a6) (truantref08_Line.f (k + 1) a0 a1 a2 a3 a4 a5 a6) := by
 intro a0 a1 a2 a3 a4 a5 a6 k
 obtain ⟨ih0, ih1, ih2, ih3⟩ := truantref08_Line.mono_l k
 unfold truantref08_Line.f
 repeat' first
   | (with_reducible exact ih0 _ _ _ _ _ _ _ _)
   | (with_reducible exact LeO.refl _)
   | (with_reducible refine LeO.ite ?_ ?_)
   | (with_reducible refine LeO.bind ?_ (fun _ => ?_))
def truantref08_Line.T4 : Bool × List (List Nat × List Nat) := (true, [([], []), ([0], [0]), ([1], [1]), ([2], [2]), ([], []), ([4], [4]), ([5, 1], [5]), ([3, 6], [3, 6]), ([7, 6, 0, 1, 2, 3, 4, 5, 6, 7], [7])])
def truantref08_Line.B4 : List Nat := [0, 1, 3, 7, 0, 16, 51, 127, 255]
theorem truantref08_Line.tab4 : rtab .any (opsOf Tryd.f26 4) = truantref08_Line.T4 := by kernel_rfl
theorem truantref08_Line.bits4 : waitsOk truantref08_Line.T4.2 truantref08_Line.B4 = true := by kernel_rfl
set_option maxHeartbeats 8000000 in
set_option maxRecDepth 100000 in
theorem truantref08_Line.calls (k : Nat) (a0_0 : ByteArray) (A0_1 : Option Addr) (c0_1 : Nat) (l0_1 : List ByteArray) (a0_2 : ByteArray) (A0_3 : Option Addr) (c0_3 : Nat) (l0_3 : List ByteArray) (A0_4 : Option Addr) (c0_4 : Nat) (l0_4 : List (S47)) (A0_5 : Option Addr) (c0_5 : Nat) (l0_5 : List (S53)) (a1 : Int) (r : ByteArray) (w : World) (hr0_1 : Kd.C Kd.string w A0_1 l0_1.length l0_1) (hc0_1 : l0_1.length ≤ c0_1) (hr0_3 : Kd.C Kd.string w A0_3 l0_3.length l0_3) (hc0_3 : l0_3.length ≤ c0_3) (hr0_4 : Kd.C k47 w A0_4 l0_4.length l0_4) (hc0_4 : l0_4.length ≤ c0_4) (hr0_5 : Kd.C k53 w A0_5 l0_5.length l0_5) (hc0_5 : l0_5.length ≤ c0_5) (h : truantref08_Line.f k a0_0 l0_1 a0_2 l0_3 l0_4 l0_5 a1 = some r) :
  Calls Tryd.prog 26 #[.agg #[.string a0_0, .slice A0_1 l0_1.length c0_1, .string a0_2, .slice A0_3 l0_3.length c0_3, .slice A0_4 l0_4.length c0_4, .slice A0_5 l0_5.length c0_5], .int .i64 a1] w fun e w' => e = .returned (.string r) ∧ Below w.heap.size w w' := by
 have hu40 := Tryd.underlying40
 have hu47 := Tryd.underlying47
 have HR0_1 := Aside0.mk hr0_1
 have HC0_1 := Aside0.mk hc0_1
 clear hr0_1 hc0_1
 have HR0_3 := Aside0.mk hr0_3
 have HC0_3 := Aside0.mk hc0_3
 clear hr0_3 hc0_3
 have HR0_4 := Aside0.mk hr0_4
 have HC0_4 := Aside0.mk hc0_4
 clear hr0_4 hc0_4
 have HR0_5 := Aside0.mk hr0_5
 have HC0_5 := Aside0.mk hc0_5
 clear hr0_5 hc0_5
 have HB := Aside0.mk (Below.refl w.heap.size w)
 have H : (if a1 < 0 then (truantref08_Line.j0 k a1 true a0_0 l0_1 a0_2 l0_3 l0_4 l0_5) else (if a1 ≥ (l0_4.length : Int) then (truantref08_Line.j0 k a1 true a0_0 l0_1 a0_2 l0_3 l0_4 l0_5) else (if 0 ≤ a1 then (if a1 < (l0_4.length : Int) then ((truantref08_Word.f ((rd_T47 l0_4 a1).f0)).bind fun t478 => (truantref08_Line.j0 k a1 (t478.toList == ([] : List UInt8)) a0_0 l0_1 a0_2 l0_3 l0_4 l0_5)) else (none)) else (none)))) = some r := h
 clear h
 have HC3 := Aside0.mk H
 clear H
 go_enter Tryd.func26, Tryd.ntmps26
 go_upto_region 1 with (first | ((with_reducible refine gate_dst (N := 2) rfl ?_); (try (refine gate_guard (by rfl) ?_; dsimp only)); refine box_event ?hg (N := 2) ?hd (cs := #[.string a0_0, .slice A0_1 l0_1.length c0_1, .string a0_2, .slice A0_3 l0_3.length c0_3, .slice A0_4 l0_4.length c0_4, .slice A0_5 l0_5.length c0_5]) (t := 40) ?hr ?_; (case hd => rfl); (case hg => rfl); (case hr => first | (go_simp; done) | (go_simp; rfl)); intro gb476 hg w4 hbox hb; have n0_ := Aside0.mk (below_step (bq51) hb); have n1_ := Aside0.mk (hbox); have n2_ := Aside0.mk ((bq35 : w.heap.size ≤ gb476)); have n3_ := Aside0.mk ((bq35 : w.heap.size ≤ gb476)); clear HB; have HB := n0_; have BK476 := n1_; have GW476 := n2_; have GE476 := n3_; clear n0_ n1_ n2_ n3_ hb hbox hg))
 (try simp only [Act.put, List.setIfInBounds_toArray, List.set_cons_zero, List.set_cons_succ])
 go_cut [26] (fun v26 wc => ∃ (kq : Nat) (x26_2 : Bool), v26 = .bool x26_2 ∧ Aside0 (truantref08_Line.j0 kq a1 x26_2 a0_0 l0_1 a0_2 l0_3 l0_4 l0_5 = some r) ∧ Aside0 (kq ≤ k) ∧ Aside0 (wc.heap[gb476]? = some (.cells #[.string a0_0, (.slice A0_1 l0_1.length c0_1), .string a0_2, (.slice A0_3 l0_3.length c0_3), (.slice A0_4 l0_4.length c0_4), (.slice A0_5 l0_5.length c0_5)] 40 (0, 0))) ∧ Aside0 (Below w.heap.size w wc))
 case first =>
  have H := HC3.out
  clear HC3
  by_cases c5 : a1 < 0
  ·rw [if_pos c5] at H
   have c5b0 := decide_eq_true c5
   clear c5
   (first | rw [c5b0] | rw [c5b1] | rw [c5b4] | (simp only [i64_w, i32_w]; rw [c5b0]) | skip)
   have H' := Aside0.mk H
   clear H
   go_wp2
   go_meet
   case rel => exact ⟨_, (true), (bq78), H', ⟨by first | omega | exact Nat.le_refl _⟩, ⟨by (with_reducible repeat (first | refine blk_drewN ?_ _ | refine blk_drew ?_ | refine blk_alloc ?_ _)); exact BK476.out⟩, ⟨bq36⟩⟩
  ·rw [if_neg c5] at H
   have c5b0 := decide_eq_false c5
   clear c5
   (first | rw [c5b0] | rw [c5b1] | rw [c5b4] | (simp only [i64_w, i32_w]; rw [c5b0]) | skip)
   by_cases c6 : a1 ≥ (l0_4.length : Int)
   ·rw [if_pos c6] at H
    have c6b0 := decide_eq_true c6
    clear c6
    have H' := Aside0.mk H
    clear H
    obtain ⟨hcz7_0, hcz7_1, hcz7_2, hcz7_3, hcz7_4, hcz7_5, hfz7_0, hfz7_1, hfz7_2, hfz7_3, hfz7_4, hfz7_5⟩ := bk6 BK476.out
    go_wp2
    go_meet
    case rel => exact ⟨_, (true), (bq78), H', ⟨by first | omega | exact Nat.le_refl _⟩, ⟨by (with_reducible repeat (first | refine blk_drewN ?_ _ | refine blk_drew ?_ | refine blk_alloc ?_ _)); exact BK476.out⟩, ⟨bq36⟩⟩
   ·rw [if_neg c6] at H
    have c6b0 := decide_eq_false c6
    clear c6
    by_cases c8 : 0 ≤ a1
    ·rw [if_pos c8] at H
     have c8b0 := decide_eq_true c8
     clear c8
     by_cases c9 : a1 < (l0_4.length : Int)
     ·rw [if_pos c9] at H
      have c9b0 := decide_eq_true c9
      clear c9
      replace H := Option.bind_eq_some_iff.mp H
      obtain ⟨t478, A100, H⟩ := H
      (try dsimp only at H)
      have A10 := Aside0.mk A100
      clear A100
      have H' := Aside0.mk H
      clear H
      obtain ⟨hcz11_0, hcz11_1, hcz11_2, hcz11_3, hcz11_4, hcz11_5, hfz11_0, hfz11_1, hfz11_2, hfz11_3, hfz11_4, hfz11_5⟩ := bk6 BK476.out
      have p477 : 0 ≤ (a1 : Int) := of_decide_eq_true (bq77)
      have q477 : a1 < (l0_4.length : Int) := of_decide_eq_true (bq77)
      obtain ⟨ad477, A477_2, c477_2, e477, hx477_0, hx477_1, hx477_2, hx477_3, hx477_4, hl477_2, hi477_2⟩ := at_T47 HR0_4.out a1 p477 q477
      cases e477
      replace hx477_0 := (HB.out.cell (World.block_lt_of_cell? w _ hx477_0)).trans hx477_0
      replace hx477_1 := (HB.out.cell (World.block_lt_of_cell? w _ hx477_1)).trans hx477_1
      replace hx477_2 := (HB.out.cell (World.block_lt_of_cell? w _ hx477_2)).trans hx477_2
      replace hx477_3 := (HB.out.cell (World.block_lt_of_cell? w _ hx477_3)).trans hx477_3
      replace hx477_4 := (HB.out.cell (World.block_lt_of_cell? w _ hx477_4)).trans hx477_4
      have HR477_2 := Aside0.mk hi477_2
      have HC477_2 := Aside0.mk hl477_2
      clear hi477_2 hl477_2
      replace p477 := eq_true p477
      replace q477 := eq_true q477
      go_wp2_with (first | (go_at_call 9; (with_reducible refine (truantref08_Word.calls ((rd_T47 l0_4 a1).f0) t478 _ A10.out).mono ?_); rintro e w12 ⟨rfl, hb⟩; have n0_ := Aside0.mk (blkB BK476.out hb); have n1_ := Aside0.mk (below_step (bq36) hb); clear BK476 HB; have BK476 := n0_; have HB := n1_; clear n0_ n1_ hb))
      go_meet
      case rel => exact ⟨_, ((t478.toList == ([] : List UInt8))), (bq78), H', ⟨by first | omega | exact Nat.le_refl _⟩, ⟨by (with_reducible repeat (first | refine blk_drewN ?_ _ | refine blk_drew ?_ | refine blk_alloc ?_ _)); exact BK476.out⟩, ⟨bq36⟩⟩
     ·rw [if_neg c9] at H
      exact absurd H (by simp)
    ·rw [if_neg c8] at H
     exact absurd H (by simp)
 case rest =>
  clear HC3
  obtain ⟨kq, x26_2, rfl, HA, HJ2, BK476, HB⟩ := hcut
  cases kq with
  | zero => exact absurd HA.out (by simp [truantref08_Line.j0])
  | succ kj2 =>
   have H := HA.out
   clear HA
   simp only [truantref08_Line.j0] at H
   by_cases c13 : x26_2 = true
   ·subst c13
    have H1 := H; rw [if_pos rfl] at H1; (try dsimp only at H1)
    clear H
    have H := H1
    clear H1
    obtain rfl := Option.some.inj H
    go_wp2
    go_ret
    exact ⟨by first | rfl | (simp [errW_none, errW_some] <;> rfl) | (simp [*, errW_none, errW_some] <;> rfl), bq36⟩
   ·replace c13 := Bool.eq_false_iff.mpr c13
    subst c13
    have H1 := H; rw [if_neg (show ¬ (false = true) by decide)] at H1; (try dsimp only at H1)
    clear H
    have H := H1
    clear H1
    by_cases c14 : 0 ≤ a1
    ·rw [if_pos c14] at H
     have c14b0 := decide_eq_true c14
     clear c14
     by_cases c15 : a1 < (l0_4.length : Int)
     ·rw [if_pos c15] at H
      have c15b0 := decide_eq_true c15
      clear c15
      replace H := Option.bind_eq_some_iff.mp H
      obtain ⟨t481, A160, H⟩ := H
      (try dsimp only at H)
      have A16 := Aside0.mk A160
      clear A160
      by_cases c17 : 1 + t481.size ≤ 9223372036854775807
      ·rw [if_pos c17] at H
       have c17b0 := eq_true c17
       have c17b1 := decide_eq_true c17
       try have c17b2 : (9223372036854775807 < 1 + t481.size) = False := eq_false (Nat.not_lt.2 c17)
       by_cases c18 : ((⟨#[118]⟩ : ByteArray) ++ t481).size + 3 ≤ 9223372036854775807
       ·rw [if_pos c18] at H
        have c18b0 := eq_true c18
        have c18b1 := decide_eq_true c18
        try have c18b2 : (9223372036854775807 < ((⟨#[118]⟩ : ByteArray) ++ t481).size + 3) = False := eq_false (Nat.not_lt.2 c18)
        try have c18b3 : (9223372036854775807 < 1 + t481.size + 3) = False := eq_false (Nat.not_lt.2 (by have h_ := c18; simp only [ByteArray.size_append] at h_; exact h_))
        replace H := Option.bind_eq_some_iff.mp H
        obtain ⟨t482, A190, H⟩ := H
        (try dsimp only at H)
        have A19 := Aside0.mk A190
        clear A190
        by_cases c20 : (((⟨#[118]⟩ : ByteArray) ++ t481) ++ (⟨#[32, 61, 32]⟩ : ByteArray)).size + t482.size ≤ 9223372036854775807
        ·rw [if_pos c20] at H
         have c20b0 := eq_true c20
         have c20b1 := decide_eq_true c20
         try have c20b2 : (9223372036854775807 < (((⟨#[118]⟩ : ByteArray) ++ t481) ++ (⟨#[32, 61, 32]⟩ : ByteArray)).size + t482.size) = False := eq_false (Nat.not_lt.2 c20)
         try have c20b3 : (9223372036854775807 < 1 + t481.size + 3 + t482.size) = False := eq_false (Nat.not_lt.2 (by have h_ := c20; simp only [ByteArray.size_append] at h_; exact h_))
         have HC21 := Aside0.mk H
         clear H
         obtain ⟨hcz22_0, hcz22_1, hcz22_2, hcz22_3, hcz22_4, hcz22_5, hfz22_0, hfz22_1, hfz22_2, hfz22_3, hfz22_4, hfz22_5⟩ := bk6 BK476.out
         have p479 : 0 ≤ (a1 : Int) := of_decide_eq_true (bq77)
         have q479 : a1 < (l0_4.length : Int) := of_decide_eq_true (bq77)
         obtain ⟨ad479, A479_2, c479_2, e479, hx479_0, hx479_1, hx479_2, hx479_3, hx479_4, hl479_2, hi479_2⟩ := at_T47 HR0_4.out a1 p479 q479
         cases e479
         replace hx479_0 := (HB.out.cell (World.block_lt_of_cell? w _ hx479_0)).trans hx479_0
         replace hx479_1 := (HB.out.cell (World.block_lt_of_cell? w _ hx479_1)).trans hx479_1
         replace hx479_2 := (HB.out.cell (World.block_lt_of_cell? w _ hx479_2)).trans hx479_2
         replace hx479_3 := (HB.out.cell (World.block_lt_of_cell? w _ hx479_3)).trans hx479_3
         replace hx479_4 := (HB.out.cell (World.block_lt_of_cell? w _ hx479_4)).trans hx479_4
         have HR479_2 := Aside0.mk hi479_2
         have HC479_2 := Aside0.mk hl479_2
         clear hi479_2 hl479_2
         replace p479 := eq_true p479
         replace q479 := eq_true q479
         try go_wp2_with (first | ((with_reducible refine gate_dst (N := 5) rfl ?_); (try (refine gate_guard (by rfl) ?_; dsimp only)); refine box_event ?hg (N := 5) ?hd (cs := #[.int .i64 0, .string (⟨#[]⟩ : ByteArray), .slice none 0 0, .int .i64 0, .string (⟨#[]⟩ : ByteArray)]) (t := 47) ?hr ?_; (case hd => rfl); (case hg => rfl); (case hr => first | (go_simp; done) | (go_simp; rfl)); intro gb480 hg w23 hbox hb; have n0_ := Aside0.mk (blkB BK476.out hb); have n1_ := Aside0.mk (below_step (bq36) hb); have n2_ := Aside0.mk (hbox); have n3_ := Aside0.mk ((bq15 : w.heap.size ≤ gb480)); have n4_ := Aside0.mk ((bq15 : w.heap.size ≤ gb480)); have n5_ := Aside0.mk ((by rw [hg]; exact Nat.ne_of_lt (blkL BK476.out) : gb476 ≠ gb480)); have n6_ := Aside0.mk ((by rw [hg]; exact Nat.ne_of_gt (blkL BK476.out) : gb480 ≠ gb476)); clear BK476 HB; have BK476 := n0_; have HB := n1_; have BK480 := n2_; have GW480 := n3_; have GE480 := n4_; have NB476_480 := n5_; have NB480_476 := n6_; clear n0_ n1_ n2_ n3_ n4_ n5_ n6_ hb hbox hg; have hnb24 := NB480_476.out; have hnc24 := NB476_480.out; obtain ⟨hcz25_0, hcz25_1, hcz25_2, hcz25_3, hcz25_4, hfz25_0, hfz25_1, hfz25_2, hfz25_3, hfz25_4⟩ := bk5 BK480.out))
         have n0_ : Aside0 ((((((w23.setCell ⟨gb480, 0, none⟩ (.int .i64 ((rd_T47 l0_4 a1).f0))).setCell ⟨gb480, 1, none⟩ (.string ((rd_T47 l0_4 a1).f1))).setCell ⟨gb480, 2, none⟩ (.slice A479_2 ((rd_T47 l0_4 a1).f2).length c479_2)).setCell ⟨gb480, 3, none⟩ (.int .i64 ((rd_T47 l0_4 a1).f3))).setCell ⟨gb480, 4, none⟩ (.string ((rd_T47 l0_4 a1).f4))).heap[gb476]? = some (.cells #[.string a0_0, .slice A0_1 l0_1.length c0_1, .string a0_2, .slice A0_3 l0_3.length c0_3, .slice (some ad479) l0_4.length c0_4, .slice A0_5 l0_5.length c0_5] 40 (0, 0))) := ⟨by (with_reducible repeat (first | refine blk_drewN ?_ _ | refine blk_drew ?_ | refine blk_alloc ?_ _)); refine blk_far ?_ NB476_480.out _; (with_reducible repeat (first | refine blk_drewN ?_ _ | refine blk_drew ?_ | refine blk_alloc ?_ _)); refine blk_far ?_ NB476_480.out _; (with_reducible repeat (first | refine blk_drewN ?_ _ | refine blk_drew ?_ | refine blk_alloc ?_ _)); refine blk_far ?_ NB476_480.out _; (with_reducible repeat (first | refine blk_drewN ?_ _ | refine blk_drew ?_ | refine blk_alloc ?_ _)); refine blk_far ?_ NB476_480.out _; (with_reducible repeat (first | refine blk_drewN ?_ _ | refine blk_drew ?_ | refine blk_alloc ?_ _)); refine blk_far ?_ NB476_480.out _; (with_reducible repeat (first | refine blk_drewN ?_ _ | refine blk_drew ?_ | refine blk_alloc ?_ _)); exact BK476.out⟩
         have n1_ : Aside0 ((((((w23.setCell ⟨gb480, 0, none⟩ (.int .i64 ((rd_T47 l0_4 a1).f0))).setCell ⟨gb480, 1, none⟩ (.string ((rd_T47 l0_4 a1).f1))).setCell ⟨gb480, 2, none⟩ (.slice A479_2 ((rd_T47 l0_4 a1).f2).length c479_2)).setCell ⟨gb480, 3, none⟩ (.int .i64 ((rd_T47 l0_4 a1).f3))).setCell ⟨gb480, 4, none⟩ (.string ((rd_T47 l0_4 a1).f4))).heap[gb480]? = some (.cells #[.int .i64 ((rd_T47 l0_4 a1).f0), .string ((rd_T47 l0_4 a1).f1), .slice A479_2 ((rd_T47 l0_4 a1).f2).length c479_2, .int .i64 ((rd_T47 l0_4 a1).f3), .string ((rd_T47 l0_4 a1).f4)] 47 (0, 0))) := ⟨by (with_reducible repeat (first | refine blk_drewN ?_ _ | refine blk_drew ?_ | refine blk_alloc ?_ _)); refine blk_put (cs := #[.int .i64 ((rd_T47 l0_4 a1).f0), .string ((rd_T47 l0_4 a1).f1), .slice A479_2 ((rd_T47 l0_4 a1).f2).length c479_2, .int .i64 ((rd_T47 l0_4 a1).f3), .string (⟨#[]⟩ : ByteArray)]) ?_ 4 _ rfl; (with_reducible repeat (first | refine blk_drewN ?_ _ | refine blk_drew ?_ | refine blk_alloc ?_ _)); refine blk_put (cs := #[.int .i64 ((rd_T47 l0_4 a1).f0), .string ((rd_T47 l0_4 a1).f1), .slice A479_2 ((rd_T47 l0_4 a1).f2).length c479_2, .int .i64 0, .string (⟨#[]⟩ : ByteArray)]) ?_ 3 _ rfl; (with_reducible repeat (first | refine blk_drewN ?_ _ | refine blk_drew ?_ | refine blk_alloc ?_ _)); refine blk_put (cs := #[.int .i64 ((rd_T47 l0_4 a1).f0), .string ((rd_T47 l0_4 a1).f1), .slice none 0 0, .int .i64 0, .string (⟨#[]⟩ : ByteArray)]) ?_ 2 _ rfl; (with_reducible repeat (first | refine blk_drewN ?_ _ | refine blk_drew ?_ | refine blk_alloc ?_ _)); refine blk_put (cs := #[.int .i64 ((rd_T47 l0_4 a1).f0), .string (⟨#[]⟩ : ByteArray), .slice none 0 0, .int .i64 0, .string (⟨#[]⟩ : ByteArray)]) ?_ 1 _ rfl; (with_reducible repeat (first | refine blk_drewN ?_ _ | refine blk_drew ?_ | refine blk_alloc ?_ _)); refine blk_put (cs := #[.int .i64 0, .string (⟨#[]⟩ : ByteArray), .slice none 0 0, .int .i64 0, .string (⟨#[]⟩ : ByteArray)]) ?_ 0 _ rfl; (with_reducible repeat (first | refine blk_drewN ?_ _ | refine blk_drew ?_ | refine blk_alloc ?_ _)); exact BK480.out⟩
         have n2_ : Aside0 (Below w.heap.size w (((((w23.setCell ⟨gb480, 0, none⟩ (.int .i64 ((rd_T47 l0_4 a1).f0))).setCell ⟨gb480, 1, none⟩ (.string ((rd_T47 l0_4 a1).f1))).setCell ⟨gb480, 2, none⟩ (.slice A479_2 ((rd_T47 l0_4 a1).f2).length c479_2)).setCell ⟨gb480, 3, none⟩ (.int .i64 ((rd_T47 l0_4 a1).f3))).setCell ⟨gb480, 4, none⟩ (.string ((rd_T47 l0_4 a1).f4)))) := ⟨bq26⟩
         clear BK476 BK480 HB
         generalize (((((w23.setCell ⟨gb480, 0, none⟩ (.int .i64 ((rd_T47 l0_4 a1).f0))).setCell ⟨gb480, 1, none⟩ (.string ((rd_T47 l0_4 a1).f1))).setCell ⟨gb480, 2, none⟩ (.slice A479_2 ((rd_T47 l0_4 a1).f2).length c479_2)).setCell ⟨gb480, 3, none⟩ (.int .i64 ((rd_T47 l0_4 a1).f3))).setCell ⟨gb480, 4, none⟩ (.string ((rd_T47 l0_4 a1).f4))) = w26 at n0_ n1_ n2_ ⊢
         have BK476 := n0_
         have BK480 := n1_
         have HB := n2_
         clear n0_ n1_ n2_
         have n0_ := Aside0.mk (blk_drew BK476.out)
         have n1_ := Aside0.mk (blk_drew BK480.out)
         have n2_ := Aside0.mk (below_drew1 HB.out)
         clear BK476 BK480 HB
         have BK476 := n0_
         have BK480 := n1_
         have HB := n2_
         clear n0_ n1_ n2_
         refine start_ (n := 9) (S := fun w' => w'.cell? ⟨gb480, 0, none⟩ = some (.int .i64 ((rd_T47 l0_4 a1).f0)) ∧ w'.cell? ⟨gb480, 1, none⟩ = some (.string ((rd_T47 l0_4 a1).f1)) ∧ w'.cell? ⟨gb480, 2, none⟩ = some (.slice A479_2 ((rd_T47 l0_4 a1).f2).length c479_2) ∧ w'.cell? ⟨gb480, 3, none⟩ = some (.int .i64 ((rd_T47 l0_4 a1).f3)) ∧ w'.cell? ⟨gb480, 4, none⟩ = some (.string ((rd_T47 l0_4 a1).f4))) (ds := []) (tf 0 9) (by kernel_rfl) rfl rfl ⟨(blk_cell BK480.out 0).trans rfl, (blk_cell BK480.out 1).trans rfl, (blk_cell BK480.out 2).trans rfl, (blk_cell BK480.out 3).trans rfl, (blk_cell BK480.out 4).trans rfl⟩ (fun hHeld => ?_); refine with_tabW truantref08_Line.tab4 truantref08_Line.bits4 (fun HT_ HW_ => ?_)
         generalize w26.drew = w27 at BK476 BK480 HB hHeld ⊢
         refine pure_ (i := 0) (N := some 32) (v := ?_) (a' := ?_) (tf 1 8) rfl rfl (any_of HT_.out (by kernel_rfl)) (fun _ _ _ h => h) (Or.inl ⟨by rfl, ?_⟩) ?_ ?_
         rotate_left
         ·intro w'
          go_simp
          with_reducible rfl
         rotate_left
         ·simp only [Act.put, List.setIfInBounds_toArray, List.set_cons_zero, List.set_cons_succ, i64_w, i32_w]
          rfl
         refine pure_ (i := 4) (N := some 36) (v := ?_) (a' := ?_) #[true, false, false, false, true, false, false, false, false] rfl rfl (any_of HT_.out (by kernel_rfl)) (fun _ _ _ h => h) (Or.inl ⟨by rfl, ?_⟩) ?_ ?_
         rotate_left
         ·intro w'
          go_simp
          with_reducible rfl
         rotate_left
         ·simp only [Act.put, List.setIfInBounds_toArray, List.set_cons_zero, List.set_cons_succ, i64_w, i32_w]
          rfl
         refine take_ (i := 5) (N := some 37) (v := ?_) (a' := ?_) #[true, false, false, false, true, true, false, false, false] rfl rfl (take_ofW HT_.out HW_.out (by kernel_rfl)) (fun _ _ _ h => h) (Or.inl ⟨by rfl, ?_⟩) hHeld ?_ ?_
         rotate_left
         ·rintro w' ⟨s0, s1, s2, s3, s4⟩
          go_simp
          with_reducible rfl
         rotate_left
         ·simp only [Act.put, List.setIfInBounds_toArray, List.set_cons_zero, List.set_cons_succ, i64_w, i32_w]
          rfl
         refine one_ (i := 1) (N := some 33) #[true, true, false, false, true, true, false, false, false] rfl rfl (one_of HT_.out (by kernel_rfl)) (by decide) (fun K hK => ?_)
         refine goes_ Tryd.func31 (by kernel_rfl) rfl #[.int .i64 a1] (by rfl) rfl rfl (bq48) ?_
         with_reducible refine (truantref01_Text.calls kj2 a1 t481 _ A16.out).mono ?_
         rintro e w28 ⟨rfl, hb⟩
         refine ⟨_, rfl, ?_⟩
         have n0_ := Aside0.mk (blkB BK476.out hb)
         have n1_ := Aside0.mk (blkB BK480.out hb)
         have n2_ := Aside0.mk (below_step (bq26) hb)
         clear BK476 BK480 HB
         have BK476 := n0_
         have BK480 := n1_
         have HB := n2_
         clear n0_ n1_ n2_ hb
         refine hK.out _ _ ⟨(blk_cell BK480.out 0).trans rfl, (blk_cell BK480.out 1).trans rfl, (blk_cell BK480.out 2).trans rfl, (blk_cell BK480.out 3).trans rfl, (blk_cell BK480.out 4).trans rfl⟩ (fun hHeld => ?_)
         clear hK K
         refine norm_ (a' := ?_) ?_ ?_
         rotate_left
         ·show Act.put _ (some 33) _ = _
          simp only [Act.put, List.setIfInBounds_toArray, List.set_cons_zero, List.set_cons_succ, i64_w, i32_w]
          rfl
         refine pure_ (i := 2) (N := some 34) (v := ?_) (a' := ?_) #[true, true, true, false, true, true, false, false, false] rfl rfl (any_of HT_.out (by kernel_rfl)) (fun _ _ _ h => h) (Or.inl ⟨by rfl, ?_⟩) ?_ ?_
         rotate_left
         ·intro w'
          go_simp
          with_reducible rfl
         rotate_left
         ·simp only [Act.put, List.setIfInBounds_toArray, List.set_cons_zero, List.set_cons_succ, i64_w, i32_w]
          rfl
         refine pure_ (i := 3) (N := some 35) (v := ?_) (a' := ?_) (tf 6 3) rfl rfl (any_of HT_.out (by kernel_rfl)) (fun _ _ _ h => h) (Or.inl ⟨by rfl, ?_⟩) ?_ ?_
         rotate_left
         ·intro w'
          go_simp
          with_reducible rfl
         rotate_left
         ·simp only [Act.put, List.setIfInBounds_toArray, List.set_cons_zero, List.set_cons_succ, i64_w, i32_w]
          rfl
         refine one_ (i := 6) (N := some 38) (tf 7 2) rfl rfl (one_of HT_.out (by kernel_rfl)) (by decide) (fun K hK => ?_)
         refine goes_ Tryd.func9 (by kernel_rfl) rfl #[.int .i64 ((rd_T47 l0_4 a1).f0)] (by rfl) rfl rfl (bq48) ?_
         with_reducible refine (truantref08_Word.calls ((rd_T47 l0_4 a1).f0) t482 _ A19.out).mono ?_
         rintro e w29 ⟨rfl, hb⟩
         refine ⟨_, rfl, ?_⟩
         have n0_ := Aside0.mk (blkB BK476.out hb)
         have n1_ := Aside0.mk (blkB BK480.out hb)
         have n2_ := Aside0.mk (below_step (bq26) hb)
         clear BK476 BK480 HB
         have BK476 := n0_
         have BK480 := n1_
         have HB := n2_
         clear n0_ n1_ n2_ hb
         refine hK.out _ _ ⟨(blk_cell BK480.out 0).trans rfl, (blk_cell BK480.out 1).trans rfl, (blk_cell BK480.out 2).trans rfl, (blk_cell BK480.out 3).trans rfl, (blk_cell BK480.out 4).trans rfl⟩ (fun hHeld => ?_)
         clear hK K
         refine norm_ (a' := ?_) ?_ ?_
         rotate_left
         ·show Act.put _ (some 38) _ = _
          simp only [Act.put, List.setIfInBounds_toArray, List.set_cons_zero, List.set_cons_succ, i64_w, i32_w]
          rfl
         refine pure_ (i := 7) (N := some 39) (v := ?_) (a' := ?_) (tf 8 1) rfl rfl (any_of HT_.out (by kernel_rfl)) (fun _ _ _ h => h) (Or.inl ⟨by rfl, ?_⟩) ?_ ?_
         rotate_left
         ·intro w'
          go_simp
          with_reducible rfl
         rotate_left
         ·simp only [Act.put, List.setIfInBounds_toArray, List.set_cons_zero, List.set_cons_succ, i64_w, i32_w]
          rfl
         refine pure_ (i := 8) (N := some 6) (v := ?_) (a' := ?_) (tf 9 0) rfl rfl (any_of HT_.out (by kernel_rfl)) (fun _ _ _ h => h) (Or.inl ⟨by rfl, ?_⟩) ?_ ?_
         rotate_left
         ·intro w'
          go_simp
          with_reducible rfl
         rotate_left
         ·simp only [Act.put, List.setIfInBounds_toArray, List.set_cons_zero, List.set_cons_succ, i64_w, i32_w]
          rfl
         refine done_ (done_of HT_.out (by kernel_rfl)) ?_
         obtain ⟨hcz30_0, hcz30_1, hcz30_2, hcz30_3, hcz30_4, hfz30_0, hfz30_1, hfz30_2, hfz30_3, hfz30_4⟩ := bk5 BK480.out
         go_upto_if 42 with (fail)
         go_cut [6] (fun v6 wc => ∃ (kq : Nat) (x6_20 : ByteArray), v6 = .string x6_20 ∧ Aside0 (truantref08_Line.j1 kq x6_20 ((rd_T47 l0_4 a1).f0) ((rd_T47 l0_4 a1).f1) ((rd_T47 l0_4 a1).f2) ((rd_T47 l0_4 a1).f3) ((rd_T47 l0_4 a1).f4) = some r) ∧ Aside0 (kq ≤ kj2) ∧ Aside0 (wc.heap[gb476]? = some (.cells #[.string a0_0, (.slice A0_1 l0_1.length c0_1), .string a0_2, (.slice A0_3 l0_3.length c0_3), (.slice (some ad479) l0_4.length c0_4), (.slice A0_5 l0_5.length c0_5)] 40 (0, 0))) ∧ Aside0 (wc.heap[gb480]? = some (.cells #[.int .i64 ((rd_T47 l0_4 a1).f0), .string ((rd_T47 l0_4 a1).f1), (.slice A479_2 ((rd_T47 l0_4 a1).f2).length c479_2), .int .i64 ((rd_T47 l0_4 a1).f3), .string ((rd_T47 l0_4 a1).f4)] 47 (0, 0))) ∧ Aside0 (Below w.heap.size w wc))
         case first =>
          have H := HC21.out
          clear HC21
          by_cases c31 : ((rd_T47 l0_4 a1).f1).toList = ([] : List UInt8)
          ·rw [if_pos c31] at H
           have c31b0 : (((rd_T47 l0_4 a1).f1).toList == ([] : List UInt8)) = true := beq_iff_eq.mpr c31
           try have c31b4 : (!(((rd_T47 l0_4 a1).f1)).toList.isEmpty) = false := by simpa using c31b0
           have c31b1 : (((rd_T47 l0_4 a1).f1).toList != ([] : List UInt8)) = false := bne_eq_false_iff_eq.mpr c31
           clear c31
           (first | rw [c31b0] | rw [c31b1] | rw [c31b4] | (simp only [i64_w, i32_w]; rw [c31b0]) | skip)
           have H' := Aside0.mk H
           clear H
           go_wp2
           go_meet
           case rel => exact ⟨_, ((((⟨#[118]⟩ : ByteArray) ++ t481) ++ (⟨#[32, 61, 32]⟩ : ByteArray)) ++ t482), (bq78), H', ⟨by have := HJ2.out; first | omega | exact Nat.le_refl _⟩, ⟨by (with_reducible repeat (first | refine blk_drewN ?_ _ | refine blk_drew ?_ | refine blk_alloc ?_ _)); exact BK476.out⟩, ⟨by (with_reducible repeat (first | refine blk_drewN ?_ _ | refine blk_drew ?_ | refine blk_alloc ?_ _)); exact BK480.out⟩, ⟨bq26⟩⟩
          ·rw [if_neg c31] at H
           have c31b0 : (((rd_T47 l0_4 a1).f1).toList == ([] : List UInt8)) = false := beq_eq_false_iff_ne.mpr c31
           try have c31b4 : (!(((rd_T47 l0_4 a1).f1)).toList.isEmpty) = true := by simpa using c31b0
           have c31b1 : (((rd_T47 l0_4 a1).f1).toList != ([] : List UInt8)) = true := bne_iff_ne.mpr c31
           (first | rw [c31b0] | rw [c31b1] | rw [c31b4] | (simp only [i64_w, i32_w]; rw [c31b0]) | skip)
           by_cases c32 : ((((⟨#[118]⟩ : ByteArray) ++ t481) ++ (⟨#[32, 61, 32]⟩ : ByteArray)) ++ t482).size + 1 ≤ 9223372036854775807
           ·rw [if_pos c32] at H
            have c32b0 := eq_true c32
            have c32b1 := decide_eq_true c32
            try have c32b2 : (9223372036854775807 < ((((⟨#[118]⟩ : ByteArray) ++ t481) ++ (⟨#[32, 61, 32]⟩ : ByteArray)) ++ t482).size + 1) = False := eq_false (Nat.not_lt.2 c32)
            try have c32b3 : (9223372036854775807 < 1 + t481.size + 3 + t482.size + 1) = False := eq_false (Nat.not_lt.2 (by have h_ := c32; simp only [ByteArray.size_append] at h_; exact h_))
            by_cases c33 : (((((⟨#[118]⟩ : ByteArray) ++ t481) ++ (⟨#[32, 61, 32]⟩ : ByteArray)) ++ t482) ++ (⟨#[32]⟩ : ByteArray)).size + ((rd_T47 l0_4 a1).f1).size ≤ 9223372036854775807
            ·rw [if_pos c33] at H
             have c33b0 := eq_true c33
             have c33b1 := decide_eq_true c33
             try have c33b2 : (9223372036854775807 < (((((⟨#[118]⟩ : ByteArray) ++ t481) ++ (⟨#[32, 61, 32]⟩ : ByteArray)) ++ t482) ++ (⟨#[32]⟩ : ByteArray)).size + ((rd_T47 l0_4 a1).f1).size) = False := eq_false (Nat.not_lt.2 c33)
             have H' := Aside0.mk H
             clear H
             have hnb34 := NB480_476.out
             have hnc34 := NB476_480.out
             obtain ⟨hcz35_0, hcz35_1, hcz35_2, hcz35_3, hcz35_4, hfz35_0, hfz35_1, hfz35_2, hfz35_3, hfz35_4⟩ := bk5 BK480.out
             go_wp2
             go_meet
             case rel => exact ⟨_, ((((((⟨#[118]⟩ : ByteArray) ++ t481) ++ (⟨#[32, 61, 32]⟩ : ByteArray)) ++ t482) ++ (⟨#[32]⟩ : ByteArray)) ++ ((rd_T47 l0_4 a1).f1)), (bq78), H', ⟨by have := HJ2.out; first | omega | exact Nat.le_refl _⟩, ⟨by (with_reducible repeat (first | refine blk_drewN ?_ _ | refine blk_drew ?_ | refine blk_alloc ?_ _)); exact BK476.out⟩, ⟨by (with_reducible repeat (first | refine blk_drewN ?_ _ | refine blk_drew ?_ | refine blk_alloc ?_ _)); exact BK480.out⟩, ⟨bq26⟩⟩
            ·rw [if_neg c33] at H
             exact absurd H (by simp)
           ·rw [if_neg c32] at H
            exact absurd H (by simp)
         case rest =>
          clear HC21 c14b0 c15b0 c17 c17b0 c17b1 c17b2 c18 c18b0 c18b1 c18b2 c18b3 c20 c20b0 c20b1 c20b2 c20b3 hcz22_0 hcz22_1 hcz22_2 hcz22_3 hcz22_4 hcz22_5 hcz25_0 hcz25_1 hcz25_2 hcz25_3 hcz25_4 hcz30_0 hcz30_1 hcz30_2 hcz30_3 hcz30_4 hfz22_0 hfz22_1 hfz22_2 hfz22_3 hfz22_4 hfz22_5 hfz25_0 hfz25_1 hfz25_2 hfz25_3 hfz25_4 hfz30_0 hfz30_1 hfz30_2 hfz30_3 hfz30_4 hx479_0 hx479_1 hx479_2 hx479_3 hx479_4 p479 q479
          obtain ⟨kq, x6_20, rfl, HA, HJ20, BK476, BK480, HB⟩ := hcut
          cases kq with
          | zero => exact absurd HA.out (by simp [truantref08_Line.j1])
          | succ kj20 =>
           have H := HA.out
           clear HA
           simp only [truantref08_Line.j1] at H
           have HC36 := Aside0.mk H
           clear H
           have hnb37 := NB480_476.out
           have hnc37 := NB476_480.out
           obtain ⟨hcz38_0, hcz38_1, hcz38_2, hcz38_3, hcz38_4, hfz38_0, hfz38_1, hfz38_2, hfz38_3, hfz38_4⟩ := bk5 BK480.out
           go_upto_if 50 with (fail)
           go_cut [6] (fun v6 wc => ∃ (kq : Nat) (x6_35 : ByteArray), v6 = .string x6_35 ∧ Aside0 (truantref08_Line.j2 kq x6_35 ((rd_T47 l0_4 a1).f0) ((rd_T47 l0_4 a1).f1) ((rd_T47 l0_4 a1).f2) ((rd_T47 l0_4 a1).f3) ((rd_T47 l0_4 a1).f4) = some r) ∧ Aside0 (kq ≤ kj20) ∧ Aside0 (wc.heap[gb476]? = some (.cells #[.string a0_0, (.slice A0_1 l0_1.length c0_1), .string a0_2, (.slice A0_3 l0_3.length c0_3), (.slice (some ad479) l0_4.length c0_4), (.slice A0_5 l0_5.length c0_5)] 40 (0, 0))) ∧ Aside0 (wc.heap[gb480]? = some (.cells #[.int .i64 ((rd_T47 l0_4 a1).f0), .string ((rd_T47 l0_4 a1).f1), (.slice A479_2 ((rd_T47 l0_4 a1).f2).length c479_2), .int .i64 ((rd_T47 l0_4 a1).f3), .string ((rd_T47 l0_4 a1).f4)] 47 (0, 0))) ∧ Aside0 (Below w.heap.size w wc))
           case first =>
            have H := HC36.out
            clear HC36
            by_cases c39 : ((rd_T47 l0_4 a1).f4).toList = ([] : List UInt8)
            ·rw [if_pos c39] at H
             have c39b0 : (((rd_T47 l0_4 a1).f4).toList == ([] : List UInt8)) = true := beq_iff_eq.mpr c39
             try have c39b4 : (!(((rd_T47 l0_4 a1).f4)).toList.isEmpty) = false := by simpa using c39b0
             have c39b1 : (((rd_T47 l0_4 a1).f4).toList != ([] : List UInt8)) = false := bne_eq_false_iff_eq.mpr c39
             clear c39
             (first | rw [c39b0] | rw [c39b1] | rw [c39b4] | (simp only [i64_w, i32_w]; rw [c39b0]) | skip)
             have H' := Aside0.mk H
             clear H
             go_wp2
             go_meet
             case rel => exact ⟨_, (x6_20), (bq78), H', ⟨by have := HJ2.out; have := HJ20.out; first | omega | exact Nat.le_refl _⟩, ⟨by (with_reducible repeat (first | refine blk_drewN ?_ _ | refine blk_drew ?_ | refine blk_alloc ?_ _)); exact BK476.out⟩, ⟨by (with_reducible repeat (first | refine blk_drewN ?_ _ | refine blk_drew ?_ | refine blk_alloc ?_ _)); exact BK480.out⟩, ⟨bq26⟩⟩
            ·rw [if_neg c39] at H
             have c39b0 : (((rd_T47 l0_4 a1).f4).toList == ([] : List UInt8)) = false := beq_eq_false_iff_ne.mpr c39
             try have c39b4 : (!(((rd_T47 l0_4 a1).f4)).toList.isEmpty) = true := by simpa using c39b0
             have c39b1 : (((rd_T47 l0_4 a1).f4).toList != ([] : List UInt8)) = true := bne_iff_ne.mpr c39
             (first | rw [c39b0] | rw [c39b1] | rw [c39b4] | (simp only [i64_w, i32_w]; rw [c39b0]) | skip)
             by_cases c40 : x6_20.size + 1 ≤ 9223372036854775807
             ·rw [if_pos c40] at H
              have c40b0 := eq_true c40
              have c40b1 := decide_eq_true c40
              try have c40b2 : (9223372036854775807 < x6_20.size + 1) = False := eq_false (Nat.not_lt.2 c40)
              by_cases c41 : (x6_20 ++ (⟨#[32]⟩ : ByteArray)).size + ((rd_T47 l0_4 a1).f4).size ≤ 9223372036854775807
              ·rw [if_pos c41] at H
               have c41b0 := eq_true c41
               have c41b1 := decide_eq_true c41
               try have c41b2 : (9223372036854775807 < (x6_20 ++ (⟨#[32]⟩ : ByteArray)).size + ((rd_T47 l0_4 a1).f4).size) = False := eq_false (Nat.not_lt.2 c41)
               have H' := Aside0.mk H
               clear H
               have hnb42 := NB480_476.out
               have hnc42 := NB476_480.out
               obtain ⟨hcz43_0, hcz43_1, hcz43_2, hcz43_3, hcz43_4, hfz43_0, hfz43_1, hfz43_2, hfz43_3, hfz43_4⟩ := bk5 BK480.out
               go_wp2
               go_meet
               case rel => exact ⟨_, ((x6_20 ++ (⟨#[32]⟩ : ByteArray)) ++ ((rd_T47 l0_4 a1).f4)), (bq78), H', ⟨by have := HJ2.out; have := HJ20.out; first | omega | exact Nat.le_refl _⟩, ⟨by (with_reducible repeat (first | refine blk_drewN ?_ _ | refine blk_drew ?_ | refine blk_alloc ?_ _)); exact BK476.out⟩, ⟨by (with_reducible repeat (first | refine blk_drewN ?_ _ | refine blk_drew ?_ | refine blk_alloc ?_ _)); exact BK480.out⟩, ⟨bq26⟩⟩
              ·rw [if_neg c41] at H
               exact absurd H (by simp)
             ·rw [if_neg c40] at H
              exact absurd H (by simp)
           case rest =>
            clear HC36 hcz38_0 hcz38_1 hcz38_2 hcz38_3 hcz38_4 hfz38_0 hfz38_1 hfz38_2 hfz38_3 hfz38_4
            obtain ⟨kq, x6_35, rfl, HA, HJ35, BK476, BK480, HB⟩ := hcut
            cases kq with
            | zero => exact absurd HA.out (by simp [truantref08_Line.j2])
            | succ kj35 =>
             have H := HA.out
             clear HA
             simp only [truantref08_Line.j2] at H
             by_cases c44 : x6_35.size + 1 ≤ 9223372036854775807
             ·rw [if_pos c44] at H
              have c44b0 := eq_true c44
              have c44b1 := decide_eq_true c44
              try have c44b2 : (9223372036854775807 < x6_35.size + 1) = False := eq_false (Nat.not_lt.2 c44)
              replace H := Option.bind_eq_some_iff.mp H
              obtain ⟨t483, A450, H⟩ := H
              (try dsimp only at H)
              have A45 := Aside0.mk A450
              clear A450
              by_cases c46 : (x6_35 ++ (⟨#[32]⟩ : ByteArray)).size + t483.size ≤ 9223372036854775807
              ·rw [if_pos c46] at H
               have c46b0 := eq_true c46
               have c46b1 := decide_eq_true c46
               try have c46b2 : (9223372036854775807 < (x6_35 ++ (⟨#[32]⟩ : ByteArray)).size + t483.size) = False := eq_false (Nat.not_lt.2 c46)
               try have c46b3 : (9223372036854775807 < x6_35.size + 1 + t483.size) = False := eq_false (Nat.not_lt.2 (by have h_ := c46; simp only [ByteArray.size_append] at h_; exact h_))
               have H' := Aside0.mk H
               clear H
               have hnb47 := NB480_476.out
               have hnc47 := NB476_480.out
               obtain ⟨hcz48_0, hcz48_1, hcz48_2, hcz48_3, hcz48_4, hfz48_0, hfz48_1, hfz48_2, hfz48_3, hfz48_4⟩ := bk5 BK480.out
               go_wp2_with (first | ((with_reducible refine gate_callee (f := 31) rfl ?_); refine goesL_ (some 60) rfl rfl Tryd.func31 (by kernel_rfl) rfl #[.int .i64 ((rd_T47 l0_4 a1).f3)] rfl (bq48) ?_; (with_reducible refine (truantref01_Text.calls kj35 ((rd_T47 l0_4 a1).f3) t483 _ A45.out).mono ?_); rintro e w49 ⟨rfl, hb⟩; refine ⟨_, rfl, ?_⟩; have n0_ := Aside0.mk (blkB BK476.out hb); have n1_ := Aside0.mk (blkB BK480.out hb); have n2_ := Aside0.mk (below_step (bq26) hb); clear BK476 BK480 HB; have BK476 := n0_; have BK480 := n1_; have HB := n2_; clear n0_ n1_ n2_ hb))
               go_loopg [6, 7] kj35 (fun kq v6 v7 w' => ∃ (x6_4 : ByteArray) (x7_4 : Int), v6 = .string x6_4 ∧ v7 = .int .i64 x7_4 ∧ Aside0 (truantref08_Line.l0 kq x6_4 x7_4 ((rd_T47 l0_4 a1).f0) ((rd_T47 l0_4 a1).f1) ((rd_T47 l0_4 a1).f2) ((rd_T47 l0_4 a1).f3) ((rd_T47 l0_4 a1).f4) = some r) ∧ Aside0 (kq ≤ kj35) ∧ Aside0 (w'.heap[gb476]? = some (.cells #[.string a0_0, (.slice A0_1 l0_1.length c0_1), .string a0_2, (.slice A0_3 l0_3.length c0_3), (.slice (some ad479) l0_4.length c0_4), (.slice A0_5 l0_5.length c0_5)] 40 (0, 0))) ∧ Aside0 (w'.heap[gb480]? = some (.cells #[.int .i64 ((rd_T47 l0_4 a1).f0), .string ((rd_T47 l0_4 a1).f1), (.slice A479_2 ((rd_T47 l0_4 a1).f2).length c479_2), .int .i64 ((rd_T47 l0_4 a1).f3), .string ((rd_T47 l0_4 a1).f4)] 47 (0, 0))) ∧ Aside0 (Below w.heap.size w w'))
               case atStart => exact ⟨((x6_35 ++ (⟨#[32]⟩ : ByteArray)) ++ t483), (0), (bq78), (bq78), H', ⟨Nat.le_refl _⟩, ⟨by (with_reducible repeat (first | refine blk_drewN ?_ _ | refine blk_drew ?_ | refine blk_alloc ?_ _)); exact BK476.out⟩, ⟨by (with_reducible repeat (first | refine blk_drewN ?_ _ | refine blk_drew ?_ | refine blk_alloc ?_ _)); exact BK480.out⟩, ⟨bq26⟩⟩
               case round =>
                clear H' c44 c44b0 c44b1 c44b2 c46 c46b0 c46b1 c46b2 c46b3 hcz48_0 hcz48_1 hcz48_2 hcz48_3 hcz48_4 hfz48_0 hfz48_1 hfz48_2 hfz48_3 hfz48_4
                obtain ⟨x6_4, x7_4, rfl, rfl, HA, HK4, BK476, BK480, HB⟩ := hrel
                cases gk with
                | zero => exact absurd HA.out (by simp [truantref08_Line.l0])
                | succ k4 =>
                 have H := HA.out
                 clear HA
                 simp only [truantref08_Line.l0] at H
                 by_cases c50 : x7_4 < (((rd_T47 l0_4 a1).f2).length : Int)
                 ·rw [if_pos c50] at H
                  have c50b0 := decide_eq_true c50
                  clear c50
                  by_cases c51 : x6_4.size + 2 ≤ 9223372036854775807
                  ·rw [if_pos c51] at H
                   have c51b0 := eq_true c51
                   have c51b1 := decide_eq_true c51
                   try have c51b2 : (9223372036854775807 < x6_4.size + 2) = False := eq_false (Nat.not_lt.2 c51)
                   by_cases c52 : 0 ≤ x7_4
                   ·rw [if_pos c52] at H
                    have c52b0 := decide_eq_true c52
                    clear c52
                    replace H := Option.bind_eq_some_iff.mp H
                    obtain ⟨t485, A530, H⟩ := H
                    (try dsimp only at H)
                    have A53 := Aside0.mk A530
                    clear A530
                    by_cases c54 : (x6_4 ++ (⟨#[32, 118]⟩ : ByteArray)).size + t485.size ≤ 9223372036854775807
                    ·rw [if_pos c54] at H
                     have c54b0 := eq_true c54
                     have c54b1 := decide_eq_true c54
                     try have c54b2 : (9223372036854775807 < (x6_4 ++ (⟨#[32, 118]⟩ : ByteArray)).size + t485.size) = False := eq_false (Nat.not_lt.2 c54)
                     try have c54b3 : (9223372036854775807 < x6_4.size + 2 + t485.size) = False := eq_false (Nat.not_lt.2 (by have h_ := c54; simp only [ByteArray.size_append] at h_; exact h_))
                     have H' := Aside0.mk H
                     clear H
                     have hnb55 := NB480_476.out
                     have hnc55 := NB476_480.out
                     obtain ⟨hcz56_0, hcz56_1, hcz56_2, hcz56_3, hcz56_4, hfz56_0, hfz56_1, hfz56_2, hfz56_3, hfz56_4⟩ := bk5 BK480.out
                     have p484 : 0 ≤ (x7_4 : Int) := of_decide_eq_true (bq77)
                     have q484 : x7_4 < (((rd_T47 l0_4 a1).f2).length : Int) := of_decide_eq_true (bq77)
                     obtain ⟨ad484, e484, hx484_0⟩ := Kd.at_int HR479_2.out x7_4 p484 q484
                     cases e484
                     replace hx484_0 := (HB.out.cell (World.block_lt_of_cell? w _ hx484_0)).trans hx484_0
                     replace p484 := eq_true p484
                     replace q484 := eq_true q484
                     go_wp2_with (first | ((with_reducible refine gate_callee (f := 31) rfl ?_); refine goesL_ (some 76) rfl rfl Tryd.func31 (by kernel_rfl) rfl #[.int .i64 (rd ((rd_T47 l0_4 a1).f2) x7_4)] rfl (bq48) ?_; (with_reducible refine (truantref01_Text.calls k4 (rd ((rd_T47 l0_4 a1).f2) x7_4) t485 _ A53.out).mono ?_); rintro e w57 ⟨rfl, hb⟩; refine ⟨_, rfl, ?_⟩; have n0_ := Aside0.mk (blkB BK476.out hb); have n1_ := Aside0.mk (blkB BK480.out hb); have n2_ := Aside0.mk (below_step (bq26) hb); clear BK476 BK480 HB; have BK476 := n0_; have BK480 := n1_; have HB := n2_; clear n0_ n1_ n2_ hb))
                     go_roundg k4
                     case measure => have := HJ2.out; have := HJ20.out; have := HJ35.out; have := HK4.out; omega
                     case rel => exact ⟨((x6_4 ++ (⟨#[32, 118]⟩ : ByteArray)) ++ t485), (wrap64 (x7_4 + 1)), (bq78), (bq78), H', ⟨by have := HJ2.out; have := HJ20.out; have := HJ35.out; have := HK4.out; omega⟩, ⟨by (with_reducible repeat (first | refine blk_drewN ?_ _ | refine blk_drew ?_ | refine blk_alloc ?_ _)); exact BK476.out⟩, ⟨by (with_reducible repeat (first | refine blk_drewN ?_ _ | refine blk_drew ?_ | refine blk_alloc ?_ _)); exact BK480.out⟩, ⟨bq26⟩⟩
                    ·rw [if_neg c54] at H
                     exact absurd H (by simp)
                   ·rw [if_neg c52] at H
                    exact absurd H (by simp)
                  ·rw [if_neg c51] at H
                   exact absurd H (by simp)
                 ·rw [if_neg c50] at H
                  have c50b0 := decide_eq_false c50
                  clear c50
                  obtain rfl := Option.some.inj H
                  have hnb58 := NB480_476.out
                  have hnc58 := NB476_480.out
                  obtain ⟨hcz59_0, hcz59_1, hcz59_2, hcz59_3, hcz59_4, hfz59_0, hfz59_1, hfz59_2, hfz59_3, hfz59_4⟩ := bk5 BK480.out
                  go_wp2
                  go_ret
                  exact ⟨by first | rfl | (simp [errW_none, errW_some] <;> rfl) | (simp [*, errW_none, errW_some] <;> rfl), bq26⟩
              ·rw [if_neg c46] at H
               exact absurd H (by simp)
             ·rw [if_neg c44] at H
              exact absurd H (by simp)
        ·rw [if_neg c20] at H
         exact absurd H (by simp)
       ·rw [if_neg c18] at H
        exact absurd H (by simp)
      ·rw [if_neg c17] at H
       exact absurd H (by simp)
     ·rw [if_neg c15] at H
      exact absurd H (by simp)
    ·rw [if_neg c14] at H
     exact absurd H (by simp)
/-! ### truantref08_Listed: function 23 -/
mutual
def truantref08_Listed.l0 : Nat → Int → Int → ByteArray → List ByteArray → ByteArray → List ByteArray → List (S47) → List (S53) → Option (Bool)
 | 0, _, _, _, _, _, _, _, _ => none
 | k + 1, x1, x5, x572000, x572001, x572002, x572003, x572004, x572005 => if x5 < (x572005.length : Int) then (truantref08_Listed.l1 k x1 x5 0 x572000 x572001 x572002 x572003 x572004 x572005) else (some false)
def truantref08_Listed.l1 : Nat → Int → Int → Int → ByteArray → List ByteArray → ByteArray → List ByteArray → List (S47) → List (S53) → Option (Bool)
 | 0, _, _, _, _, _, _, _, _, _ => none
 | k + 1, x1, x5, x6, x572000, x572001, x572002, x572003, x572004, x572005 => if 0 ≤ x5 then (if x5 < (x572005.length : Int) then (if x6 < (((rd_T53 x572005 x5).f0).length : Int) then (if 0 ≤ x6 then (if (rd ((rd_T53 x572005 x5).f0) x6) = x1 then (some true) else (truantref08_Listed.l1 k x1 x5 (wrap64 (x6 + 1)) x572000 x572001 x572002 x572003 x572004 x572005)) else (none)) else (truantref08_Listed.l0 k x1 (wrap64 (x5 + 1)) x572000 x572001 x572002 x572003 x572004 x572005)) else (none)) else (none)
end
def truantref08_Listed.f (k : Nat) (a0_0 : ByteArray) (l0_1 : List ByteArray) (a0_2 : ByteArray) (l0_3 : List ByteArray) (l0_4 : List (S47)) (l0_5 : List (S53)) (a1 : Int) : Option (Bool) := truantref08_Listed.l0 k a1 0 a0_0 l0_1 a0_2 l0_3 l0_4 l0_5
theorem truantref08_Listed.mono_l : ∀ k, (∀ y0 y1 y2 y3 y4 y5 y6 y7, LeO (truantref08_Listed.l0 k y0 y1 y2 y3 y4 y5 y6 y7) (truantref08_Listed.l0 (k + 1) y0 y1 y2 y3 y4 y5 y6 y7)) ∧ (∀ y0 y1 y2 y3 y4 y5 y6 y7 y8, LeO (truantref08_Listed.l1 k y0 y1 y2 y3 y4 y5 y6 y7 y8) (truantref08_Listed.l1 (k + 1) y0 y1 y2 y3 y4 y5 y6 y7 y8))
 | 0 => ⟨fun _ _ _ _ _ _ _ _ r h => by simp [truantref08_Listed.l0] at h, fun _ _ _ _ _ _ _ _ _ r h => by simp [truantref08_Listed.l1] at h⟩
 | k + 1 => by
  obtain ⟨ih0, ih1⟩ := truantref08_Listed.mono_l k
  refine ⟨?_, ?_⟩
  ·intro y0 y1 y2 y3 y4 y5 y6 y7
   unfold truantref08_Listed.l0
   repeat' first
   | (with_reducible exact ih1 _ _ _ _ _ _ _ _ _)
   | (with_reducible exact LeO.refl _)
   | (with_reducible refine LeO.ite ?_ ?_)
  ·intro y0 y1 y2 y3 y4 y5 y6 y7 y8
   unfold truantref08_Listed.l1
   repeat' first
   | (with_reducible exact ih0 _ _ _ _ _ _ _ _)
   | (with_reducible exact ih1 _ _ _ _ _ _ _ _ _)
   | (with_reducible exact LeO.refl _)
   | (with_reducible refine LeO.ite ?_ ?_)
theorem truantref08_Listed.mono : ∀ a0 a1 a2 a3 a4 a5 a6 k, LeO (truantref08_Listed.f k a0 a1 a2 a3 a4 a5 a6) (truantref08_Listed.f (k + 1) a0 a1 a2 a3 a4 a5 a6) := by
 intro a0 a1 a2 a3 a4 a5 a6 k
 obtain ⟨ih0, ih1⟩ := truantref08_Listed.mono_l k
 unfold truantref08_Listed.f
 repeat' first
   | (with_reducible exact ih0 _ _ _ _ _ _ _ _)
set_option maxHeartbeats 8000000 in
set_option maxRecDepth 100000 in
theorem truantref08_Listed.calls (k : Nat) (a0_0 : ByteArray) (A0_1 : Option Addr) (c0_1 : Nat) (l0_1 : List ByteArray) (a0_2 : ByteArray) (A0_3 : Option Addr) (c0_3 : Nat) (l0_3 : List ByteArray) (A0_4 : Option Addr) (c0_4 : Nat) (l0_4 : List (S47)) (A0_5 : Option Addr) (c0_5 : Nat) (l0_5 : List (S53)) (a1 : Int) (r : Bool) (w : World) (hr0_1 : Kd.C Kd.string w A0_1 l0_1.length l0_1) (hc0_1 : l0_1.length ≤ c0_1) (hr0_3 : Kd.C Kd.string w A0_3 l0_3.length l0_3) (hc0_3 : l0_3.length ≤ c0_3) (hr0_4 : Kd.C k47 w A0_4 l0_4.length l0_4) (hc0_4 : l0_4.length ≤ c0_4) (hr0_5 : Kd.C k53 w A0_5 l0_5.length l0_5) (hc0_5 : l0_5.length ≤ c0_5) (h : truantref08_Listed.f k a0_0 l0_1 a0_2 l0_3 l0_4 l0_5 a1 = some r) :
  Calls Tryd.prog 23 #[.agg #[.string a0_0, .slice A0_1 l0_1.length c0_1, .string a0_2, .slice A0_3 l0_3.length c0_3, .slice A0_4 l0_4.length c0_4, .slice A0_5 l0_5.length c0_5], .int .i64 a1] w fun e w' => e = .returned (.bool r) ∧ Below w.heap.size w w' := by
 have hu40 := Tryd.underlying40
 have HR0_1 := Aside0.mk hr0_1
 have HC0_1 := Aside0.mk hc0_1
 clear hr0_1 hc0_1
 have HR0_3 := Aside0.mk hr0_3
 have HC0_3 := Aside0.mk hc0_3
 clear hr0_3 hc0_3
 have HR0_4 := Aside0.mk hr0_4
 have HC0_4 := Aside0.mk hc0_4
 clear hr0_4 hc0_4
 have HR0_5 := Aside0.mk hr0_5
 have HC0_5 := Aside0.mk hc0_5
 clear hr0_5 hc0_5
 have HB := Aside0.mk (Below.refl w.heap.size w)
 have H : (truantref08_Listed.l0 k a1 0 a0_0 l0_1 a0_2 l0_3 l0_4 l0_5) = some r := h
 clear h
 have H' := Aside0.mk H
 clear H
 go_enter Tryd.func23, Tryd.ntmps23
 go_wp2_with (first | ((with_reducible refine gate_dst (N := 2) rfl ?_); refine box_event ?hg (N := 2) ?hd (cs := #[.string a0_0, .slice A0_1 l0_1.length c0_1, .string a0_2, .slice A0_3 l0_3.length c0_3, .slice A0_4 l0_4.length c0_4, .slice A0_5 l0_5.length c0_5]) (t := 40) ?hr ?_; (case hd => rfl); (case hg => rfl); (case hr => first | (go_simp; done) | (go_simp; rfl)); intro gb571 hg w3 hbox hb; have n0_ := Aside0.mk (below_step (bq51) hb); have n1_ := Aside0.mk (hbox); have n2_ := Aside0.mk ((bq35 : w.heap.size ≤ gb571)); have n3_ := Aside0.mk ((bq35 : w.heap.size ≤ gb571)); clear HB; have HB := n0_; have BK571 := n1_; have GW571 := n2_; have GE571 := n3_; clear n0_ n1_ n2_ n3_ hb hbox hg))
 go_loopg [5] k (fun kq v5 w' => ∃ (x5_1 : Int), v5 = .int .i64 x5_1 ∧ Aside0 (truantref08_Listed.l0 kq a1 x5_1 a0_0 l0_1 a0_2 l0_3 l0_4 l0_5 = some r) ∧ Aside0 (kq ≤ k) ∧ Aside0 (w'.heap[gb571]? = some (.cells #[.string a0_0, (.slice A0_1 l0_1.length c0_1), .string a0_2, (.slice A0_3 l0_3.length c0_3), (.slice A0_4 l0_4.length c0_4), (.slice A0_5 l0_5.length c0_5)] 40 (0, 0))) ∧ Aside0 (Below w.heap.size w w'))
 case atStart => exact ⟨(0), (bq78), H', ⟨Nat.le_refl _⟩, ⟨by (with_reducible repeat (first | refine blk_drewN ?_ _ | refine blk_drew ?_ | refine blk_alloc ?_ _)); exact BK571.out⟩, ⟨by repeat (first | (with_reducible first | exact HB.out | apply below_alloc | apply pw_below_drewN | apply below_drew1 | refine below_set ?_ GE571.out) | exact HB.out)⟩⟩
 case round =>
  clear H'
  obtain ⟨x5_1, rfl, HA, HK1, BK571, HB⟩ := hrel
  cases gk with
  | zero => exact absurd HA.out (by simp [truantref08_Listed.l0])
  | succ k1 =>
   have H := HA.out
   clear HA
   simp only [truantref08_Listed.l0] at H
   by_cases c4 : x5_1 < (l0_5.length : Int)
   ·rw [if_pos c4] at H
    have c4b0 := decide_eq_true c4
    clear c4
    have H' := Aside0.mk H
    clear H
    obtain ⟨hcz5_0, hcz5_1, hcz5_2, hcz5_3, hcz5_4, hcz5_5, hfz5_0, hfz5_1, hfz5_2, hfz5_3, hfz5_4, hfz5_5⟩ := bk6 BK571.out
    go_wp2
    go_loopg [6] k1 (fun kq v6 w' => ∃ (x6_2 : Int), v6 = .int .i64 x6_2 ∧ Aside0 (truantref08_Listed.l1 kq a1 x5_1 x6_2 a0_0 l0_1 a0_2 l0_3 l0_4 l0_5 = some r) ∧ Aside0 (kq ≤ k1) ∧ Aside0 (w'.heap[gb571]? = some (.cells #[.string a0_0, (.slice A0_1 l0_1.length c0_1), .string a0_2, (.slice A0_3 l0_3.length c0_3), (.slice A0_4 l0_4.length c0_4), (.slice A0_5 l0_5.length c0_5)] 40 (0, 0))) ∧ Aside0 (Below w.heap.size w w'))
    case atStart => exact ⟨(0), (bq78), H', ⟨Nat.le_refl _⟩, ⟨by (with_reducible repeat (first | refine blk_drewN ?_ _ | refine blk_drew ?_ | refine blk_alloc ?_ _)); exact BK571.out⟩, ⟨by repeat (first | (with_reducible first | exact HB.out | apply below_alloc | apply pw_below_drewN | apply below_drew1 | refine below_set ?_ GE571.out) | exact HB.out)⟩⟩
    case round =>
     clear H' c4b0 hcz5_0 hcz5_1 hcz5_2 hcz5_3 hcz5_4 hcz5_5 hfz5_0 hfz5_1 hfz5_2 hfz5_3 hfz5_4 hfz5_5
     obtain ⟨x6_2, rfl, HA, HK2, BK571, HB⟩ := hrel
     cases gk with
     | zero => exact absurd HA.out (by simp [truantref08_Listed.l1])
     | succ k2 =>
      have H := HA.out
      clear HA
      simp only [truantref08_Listed.l1] at H
      by_cases c6 : 0 ≤ x5_1
      ·rw [if_pos c6] at H
       have c6b0 := decide_eq_true c6
       clear c6
       by_cases c7 : x5_1 < (l0_5.length : Int)
       ·rw [if_pos c7] at H
        have c7b0 := decide_eq_true c7
        clear c7
        by_cases c8 : x6_2 < (((rd_T53 l0_5 x5_1).f0).length : Int)
        ·rw [if_pos c8] at H
         have c8b0 := decide_eq_true c8
         clear c8
         by_cases c9 : 0 ≤ x6_2
         ·rw [if_pos c9] at H
          have c9b0 := decide_eq_true c9
          clear c9
          by_cases c10 : (rd ((rd_T53 l0_5 x5_1).f0) x6_2) = a1
          ·rw [if_pos c10] at H
           have c10b0 : ((rd ((rd_T53 l0_5 x5_1).f0) x6_2) == a1) = true := beq_iff_eq.mpr c10
           have c10b1 : ((rd ((rd_T53 l0_5 x5_1).f0) x6_2) != a1) = false := bne_eq_false_iff_eq.mpr c10
           clear c10
           obtain rfl := Option.some.inj H
           obtain ⟨hcz11_0, hcz11_1, hcz11_2, hcz11_3, hcz11_4, hcz11_5, hfz11_0, hfz11_1, hfz11_2, hfz11_3, hfz11_4, hfz11_5⟩ := bk6 BK571.out
           have p572 : 0 ≤ (x5_1 : Int) := of_decide_eq_true (bq77)
           have q572 : x5_1 < (l0_5.length : Int) := of_decide_eq_true (bq77)
           obtain ⟨ad572, A572_0, c572_0, e572, hx572_0, hx572_1, hx572_2, hx572_3, hx572_4, hl572_0, hi572_0⟩ := at_T53 HR0_5.out x5_1 p572 q572
           cases e572
           replace hx572_0 := (HB.out.cell (World.block_lt_of_cell? w _ hx572_0)).trans hx572_0
           replace hx572_1 := (HB.out.cell (World.block_lt_of_cell? w _ hx572_1)).trans hx572_1
           replace hx572_2 := (HB.out.cell (World.block_lt_of_cell? w _ hx572_2)).trans hx572_2
           replace hx572_3 := (HB.out.cell (World.block_lt_of_cell? w _ hx572_3)).trans hx572_3
           replace hx572_4 := (HB.out.cell (World.block_lt_of_cell? w _ hx572_4)).trans hx572_4
           have HR572_0 := Aside0.mk hi572_0
           have HC572_0 := Aside0.mk hl572_0
           clear hi572_0 hl572_0
           replace p572 := eq_true p572
           replace q572 := eq_true q572
           have p573 : 0 ≤ (x5_1 : Int) := of_decide_eq_true (bq77)
           have q573 : x5_1 < (l0_5.length : Int) := of_decide_eq_true (bq77)
           obtain ⟨ad573, A573_0, c573_0, e573, hx573_0, hx573_1, hx573_2, hx573_3, hx573_4, hl573_0, hi573_0⟩ := at_T53 HR0_5.out x5_1 p573 q573
           obtain rfl : ad572 = ad573 := (by injection e573)
           replace hx573_0 := (HB.out.cell (World.block_lt_of_cell? w _ hx573_0)).trans hx573_0
           replace hx573_1 := (HB.out.cell (World.block_lt_of_cell? w _ hx573_1)).trans hx573_1
           replace hx573_2 := (HB.out.cell (World.block_lt_of_cell? w _ hx573_2)).trans hx573_2
           replace hx573_3 := (HB.out.cell (World.block_lt_of_cell? w _ hx573_3)).trans hx573_3
           replace hx573_4 := (HB.out.cell (World.block_lt_of_cell? w _ hx573_4)).trans hx573_4
           have HR573_0 := Aside0.mk hi573_0
           have HC573_0 := Aside0.mk hl573_0
           clear hi573_0 hl573_0
           replace p573 := eq_true p573
           replace q573 := eq_true q573
           have ea_ := Option.some.inj (hx572_0.symm.trans hx573_0)
           injection ea_ with ea_ en_ ec_
           subst ea_
           subst ec_
           clear en_
           have p574 : 0 ≤ (x6_2 : Int) := of_decide_eq_true (bq77)
           have q574 : x6_2 < (((rd_T53 l0_5 x5_1).f0).length : Int) := of_decide_eq_true (bq77)
           obtain ⟨ad574, e574, hx574_0⟩ := Kd.at_int HR573_0.out x6_2 p574 q574
           cases e574
           replace hx574_0 := (HB.out.cell (World.block_lt_of_cell? w _ hx574_0)).trans hx574_0
           replace p574 := eq_true p574
           replace q574 := eq_true q574
           go_wp2
           go_ret
           exact ⟨by first | rfl | (simp [errW_none, errW_some] <;> rfl) | (simp [*, errW_none, errW_some] <;> rfl), by repeat (first | (with_reducible first | exact HB.out | apply below_alloc | apply pw_below_drewN | apply below_drew1 | refine below_set ?_ GE571.out) | exact HB.out)⟩
          ·rw [if_neg c10] at H
           have c10b0 : ((rd ((rd_T53 l0_5 x5_1).f0) x6_2) == a1) = false := beq_eq_false_iff_ne.mpr c10
           have c10b1 : ((rd ((rd_T53 l0_5 x5_1).f0) x6_2) != a1) = true := bne_iff_ne.mpr c10
           have H' := Aside0.mk H
           clear H
           obtain ⟨hcz12_0, hcz12_1, hcz12_2, hcz12_3, hcz12_4, hcz12_5, hfz12_0, hfz12_1, hfz12_2, hfz12_3, hfz12_4, hfz12_5⟩ := bk6 BK571.out
           have p572 : 0 ≤ (x5_1 : Int) := of_decide_eq_true (bq77)
           have q572 : x5_1 < (l0_5.length : Int) := of_decide_eq_true (bq77)
           obtain ⟨ad572, A572_0, c572_0, e572, hx572_0, hx572_1, hx572_2, hx572_3, hx572_4, hl572_0, hi572_0⟩ := at_T53 HR0_5.out x5_1 p572 q572
           cases e572
           replace hx572_0 := (HB.out.cell (World.block_lt_of_cell? w _ hx572_0)).trans hx572_0
           replace hx572_1 := (HB.out.cell (World.block_lt_of_cell? w _ hx572_1)).trans hx572_1
           replace hx572_2 := (HB.out.cell (World.block_lt_of_cell? w _ hx572_2)).trans hx572_2
           replace hx572_3 := (HB.out.cell (World.block_lt_of_cell? w _ hx572_3)).trans hx572_3
           replace hx572_4 := (HB.out.cell (World.block_lt_of_cell? w _ hx572_4)).trans hx572_4
           have HR572_0 := Aside0.mk hi572_0
           have HC572_0 := Aside0.mk hl572_0
           clear hi572_0 hl572_0
           replace p572 := eq_true p572
           replace q572 := eq_true q572
           have p573 : 0 ≤ (x5_1 : Int) := of_decide_eq_true (bq77)
           have q573 : x5_1 < (l0_5.length : Int) := of_decide_eq_true (bq77)
           obtain ⟨ad573, A573_0, c573_0, e573, hx573_0, hx573_1, hx573_2, hx573_3, hx573_4, hl573_0, hi573_0⟩ := at_T53 HR0_5.out x5_1 p573 q573
           obtain rfl : ad572 = ad573 := (by injection e573)
           replace hx573_0 := (HB.out.cell (World.block_lt_of_cell? w _ hx573_0)).trans hx573_0
           replace hx573_1 := (HB.out.cell (World.block_lt_of_cell? w _ hx573_1)).trans hx573_1
           replace hx573_2 := (HB.out.cell (World.block_lt_of_cell? w _ hx573_2)).trans hx573_2
           replace hx573_3 := (HB.out.cell (World.block_lt_of_cell? w _ hx573_3)).trans hx573_3
           replace hx573_4 := (HB.out.cell (World.block_lt_of_cell? w _ hx573_4)).trans hx573_4
           have HR573_0 := Aside0.mk hi573_0
           have HC573_0 := Aside0.mk hl573_0
           clear hi573_0 hl573_0
           replace p573 := eq_true p573
           replace q573 := eq_true q573
           have ea_ := Option.some.inj (hx572_0.symm.trans hx573_0)
           injection ea_ with ea_ en_ ec_
           subst ea_
           subst ec_
           clear en_
           have p574 : 0 ≤ (x6_2 : Int) := of_decide_eq_true (bq77)
           have q574 : x6_2 < (((rd_T53 l0_5 x5_1).f0).length : Int) := of_decide_eq_true (bq77)
           obtain ⟨ad574, e574, hx574_0⟩ := Kd.at_int HR573_0.out x6_2 p574 q574
           cases e574
           replace hx574_0 := (HB.out.cell (World.block_lt_of_cell? w _ hx574_0)).trans hx574_0
           replace p574 := eq_true p574
           replace q574 := eq_true q574
           go_wp2
           go_roundg k2
           case measure => have := HK1.out; have := HK2.out; omega
           case rel => exact ⟨(wrap64 (x6_2 + 1)), (bq78), H', ⟨by have := HK1.out; have := HK2.out; omega⟩, ⟨by (with_reducible repeat (first | refine blk_drewN ?_ _ | refine blk_drew ?_ | refine blk_alloc ?_ _)); exact BK571.out⟩, ⟨by repeat (first | (with_reducible first | exact HB.out | apply below_alloc | apply pw_below_drewN | apply below_drew1 | refine below_set ?_ GE571.out) | exact HB.out)⟩⟩
         ·rw [if_neg c9] at H
          exact absurd H (by simp)
        ·rw [if_neg c8] at H
         have c8b0 := decide_eq_false c8
         clear c8
         have H' := Aside0.mk H
         clear H
         obtain ⟨hcz13_0, hcz13_1, hcz13_2, hcz13_3, hcz13_4, hcz13_5, hfz13_0, hfz13_1, hfz13_2, hfz13_3, hfz13_4, hfz13_5⟩ := bk6 BK571.out
         have p572 : 0 ≤ (x5_1 : Int) := of_decide_eq_true (bq77)
         have q572 : x5_1 < (l0_5.length : Int) := of_decide_eq_true (bq77)
         obtain ⟨ad572, A572_0, c572_0, e572, hx572_0, hx572_1, hx572_2, hx572_3, hx572_4, hl572_0, hi572_0⟩ := at_T53 HR0_5.out x5_1 p572 q572
         cases e572
         replace hx572_0 := (HB.out.cell (World.block_lt_of_cell? w _ hx572_0)).trans hx572_0
         replace hx572_1 := (HB.out.cell (World.block_lt_of_cell? w _ hx572_1)).trans hx572_1
         replace hx572_2 := (HB.out.cell (World.block_lt_of_cell? w _ hx572_2)).trans hx572_2
         replace hx572_3 := (HB.out.cell (World.block_lt_of_cell? w _ hx572_3)).trans hx572_3
         replace hx572_4 := (HB.out.cell (World.block_lt_of_cell? w _ hx572_4)).trans hx572_4
         have HR572_0 := Aside0.mk hi572_0
         have HC572_0 := Aside0.mk hl572_0
         clear hi572_0 hl572_0
         replace p572 := eq_true p572
         replace q572 := eq_true q572
         go_wp2
         go_roundg k2
         case measure => have := HK1.out; have := HK2.out; omega
         case rel => exact ⟨(wrap64 (x5_1 + 1)), (bq78), H', ⟨by have := HK1.out; have := HK2.out; omega⟩, ⟨by (with_reducible repeat (first | refine blk_drewN ?_ _ | refine blk_drew ?_ | refine blk_alloc ?_ _)); exact BK571.out⟩, ⟨by repeat (first | (with_reducible first | exact HB.out | apply below_alloc | apply pw_below_drewN | apply below_drew1 | refine below_set ?_ GE571.out) | exact HB.out)⟩⟩
       ·rw [if_neg c7] at H
        exact absurd H (by simp)
      ·rw [if_neg c6] at H
       exact absurd H (by simp)
   ·rw [if_neg c4] at H
    have c4b0 := decide_eq_false c4
    clear c4
    obtain rfl := Option.some.inj H
    obtain ⟨hcz14_0, hcz14_1, hcz14_2, hcz14_3, hcz14_4, hcz14_5, hfz14_0, hfz14_1, hfz14_2, hfz14_3, hfz14_4, hfz14_5⟩ := bk6 BK571.out
    go_wp2
    go_ret
    exact ⟨by first | rfl | (simp [errW_none, errW_some] <;> rfl) | (simp [*, errW_none, errW_some] <;> rfl), by repeat (first | (with_reducible first | exact HB.out | apply below_alloc | apply pw_below_drewN | apply below_drew1 | refine below_set ?_ GE571.out) | exact HB.out)⟩
/-! ### truantref08_Has: function 24 -/
def truantref08_Has.l0 : Nat → List Int → Int → Int → Option (Bool)
 | 0, _, _, _ => none
 | k + 1, x0, x1, x5 => if x5 < (x0.length : Int) then (if 0 ≤ x5 then (if (rd x0 x5) = x1 then (some true) else (truantref08_Has.l0 k x0 x1 (wrap64 (x5 + 1)))) else (none)) else (some false)
def truantref08_Has.f (k : Nat) (l0 : List Int) (a1 : Int) : Option (Bool) := truantref08_Has.l0 k l0 a1 0
theorem truantref08_Has.mono_l : ∀ k, (∀ y0 y1 y2, LeO (truantref08_Has.l0 k y0 y1 y2) (truantref08_Has.l0 (k + 1) y0 y1 y2))
 | 0 => fun _ _ _ r h => by simp [truantref08_Has.l0] at h
 | k + 1 => by
  have ih0 := truantref08_Has.mono_l k
  ·intro y0 y1 y2
   unfold truantref08_Has.l0
   repeat' first
   | (with_reducible exact ih0 _ _ _)
   | (with_reducible exact LeO.refl _)
   | (with_reducible refine LeO.ite ?_ ?_)
theorem truantref08_Has.mono : ∀ a0 a1 k, LeO (truantref08_Has.f k a0 a1) (truantref08_Has.f (k + 1) a0 a1) := by
 intro a0 a1 k
 have ih0 := truantref08_Has.mono_l k
 unfold truantref08_Has.f
 repeat' first
   | (with_reducible exact ih0 _ _ _)
set_option maxHeartbeats 8000000 in
set_option maxRecDepth 100000 in
theorem truantref08_Has.calls (k : Nat) (A0 : Option Addr) (c0 : Nat) (l0 : List Int) (a1 : Int) (r : Bool) (w : World) (hr0 : Kd.C (Kd.int .i64) w A0 l0.length l0) (hc0 : l0.length ≤ c0) (h : truantref08_Has.f k l0 a1 = some r) :
  Calls Tryd.prog 24 #[.slice A0 l0.length c0, .int .i64 a1] w fun e w' => e = .returned (.bool r) ∧ Drawn0 w w' := by
 have HR0 := Aside0.mk hr0
 have HC0 := Aside0.mk hc0
 clear hr0 hc0
 have H : (truantref08_Has.l0 k l0 a1 0) = some r := h
 clear h
 have H' := Aside0.mk H
 clear H
 go_enter Tryd.func24, Tryd.ntmps24
 go_wp2
 go_loopg [5] k (fun kq v5 w' => ∃ (x5_1 : Int), v5 = .int .i64 x5_1 ∧ Aside0 (truantref08_Has.l0 kq l0 a1 x5_1 = some r) ∧ Aside0 (kq ≤ k) ∧ Drawn0 w w')
 case atStart => exact ⟨(0), (bq78), H', ⟨Nat.le_refl _⟩, by repeat (first | exact Drawn0.refl _ | apply Drawn0.step)⟩
 case round =>
  clear H'
  obtain ⟨x5_1, rfl, HA, HK1, ⟨m1, rfl⟩⟩ := hrel
  cases gk with
  | zero => exact absurd HA.out (by simp [truantref08_Has.l0])
  | succ k1 =>
   have H := HA.out
   clear HA
   simp only [truantref08_Has.l0] at H
   by_cases c3 : x5_1 < (l0.length : Int)
   ·rw [if_pos c3] at H
    have c3b0 := decide_eq_true c3
    clear c3
    by_cases c4 : 0 ≤ x5_1
    ·rw [if_pos c4] at H
     have c4b0 := decide_eq_true c4
     clear c4
     by_cases c5 : (rd l0 x5_1) = a1
     ·rw [if_pos c5] at H
      have c5b0 : ((rd l0 x5_1) == a1) = true := beq_iff_eq.mpr c5
      have c5b1 : ((rd l0 x5_1) != a1) = false := bne_eq_false_iff_eq.mpr c5
      clear c5
      obtain rfl := Option.some.inj H
      have p575 : 0 ≤ (x5_1 : Int) := of_decide_eq_true (bq77)
      have q575 : x5_1 < (l0.length : Int) := of_decide_eq_true (bq77)
      obtain ⟨ad575, e575, hx575_0⟩ := Kd.at_int HR0.out x5_1 p575 q575
      cases e575
      replace p575 := eq_true p575
      replace q575 := eq_true q575
      go_wp2
      go_ret
      exact ⟨bq78, by repeat (first | exact Drawn0.refl _ | apply Drawn0.step)⟩
     ·rw [if_neg c5] at H
      have c5b0 : ((rd l0 x5_1) == a1) = false := beq_eq_false_iff_ne.mpr c5
      have c5b1 : ((rd l0 x5_1) != a1) = true := bne_iff_ne.mpr c5
      have H' := Aside0.mk H
      clear H
      have p575 : 0 ≤ (x5_1 : Int) := of_decide_eq_true (bq77)
      have q575 : x5_1 < (l0.length : Int) := of_decide_eq_true (bq77)
      obtain ⟨ad575, e575, hx575_0⟩ := Kd.at_int HR0.out x5_1 p575 q575
      cases e575
      replace p575 := eq_true p575
      replace q575 := eq_true q575
      go_wp2
      go_roundg k1
      case measure => have := HK1.out; omega
      case rel => exact ⟨(wrap64 (x5_1 + 1)), (bq78), H', ⟨by have := HK1.out; omega⟩, by repeat (first | exact Drawn0.refl _ | apply Drawn0.step)⟩
    ·rw [if_neg c4] at H
     exact absurd H (by simp)
   ·rw [if_neg c3] at H
    have c3b0 := decide_eq_false c3
    clear c3
    obtain rfl := Option.some.inj H
    go_wp2
    go_ret
    exact ⟨bq78, by repeat (first | exact Drawn0.refl _ | apply Drawn0.step)⟩
/-! ### ir_jump: function 48 -/
def ir_jump.j0 : Nat → Bool → List Int → Int → Int → Int → Int → Option (ByteArray)
 | 0, _, _, _, _, _, _ => none
 | k + 1, x32, x149000, x149001, x149002, x149003, x149004 => if x32 = true then (some (⟨#[114, 101, 116]⟩ : ByteArray)) else (if x149001 = 3 then ((ir_value.f x149002).bind fun t153 => (if 4 + t153.size ≤ 9223372036854775807 then (some ((⟨#[114, 101, 116, 32]⟩ : ByteArray) ++ t153)) else (none))) else ((strconv_Itoa_42.f x149001).bind fun t154 => (if 5 + t154.size ≤ 9223372036854775807 then (some ((⟨#[106, 117, 109, 112, 32]⟩ : ByteArray) ++ t154)) else (none))))
def ir_jump.f (k : Nat) (l0_0 : List Int) (a0_1 : Int) (a0_2 : Int) (a0_3 : Int) (a0_4 : Int) : Option (ByteArray) := if a0_1 = 1 then ((strconv_Itoa_42.f a0_3).bind fun t149 => (if 5 + t149.size ≤ 9223372036854775807 then (some ((⟨#[103, 111, 116, 111, 32]⟩ : ByteArray) ++ t149)) else (none))) else (if a0_1 = 2 then ((ir_value.f a0_2).bind fun t150 => (if 3 + t150.size ≤ 9223372036854775807 then (if ((⟨#[105, 102, 32]⟩ : ByteArray) ++ t150).size + 1 ≤ 9223372036854775807 then ((strconv_Itoa_42.f a0_3).bind fun t151 => (if (((⟨#[105, 102, 32]⟩ : ByteArray) ++ t150) ++ (⟨#[32]⟩ : ByteArray)).size + t151.size ≤ 9223372036854775807 then (if ((((⟨#[105, 102, 32]⟩ : ByteArray) ++ t150) ++ (⟨#[32]⟩ : ByteArray)) ++ t151).size + 1 ≤ 9223372036854775807 then ((strconv_Itoa_42.f a0_4).bind fun t152 => (if (((((⟨#[105, 102, 32]⟩ : ByteArray) ++ t150) ++ (⟨#[32]⟩ : ByteArray)) ++ t151) ++ (⟨#[32]⟩ : ByteArray)).size + t152.size ≤ 9223372036854775807 then (some ((((((⟨#[105, 102, 32]⟩ : ByteArray) ++ t150) ++ (⟨#[32]⟩ : ByteArray)) ++ t151) ++ (⟨#[32]⟩ : ByteArray)) ++ t152)) else (none))) else (none)) else (none))) else (none)) else (none))) else (if a0_1 = 3 then (ir_jump.j0 k (a0_2 == (-1)) l0_0 a0_1 a0_2 a0_3 a0_4) else (ir_jump.j0 k false l0_0 a0_1 a0_2 a0_3 a0_4)))
theorem ir_jump.mono_l : ∀ k, (∀ y0 y1 y2 y3 y4 y5, LeO (ir_jump.j0 k y0 y1 y2 y3 y4 y5) (ir_jump.j0 (k + 1) y0 y1 y2 y3 y4 y5))
 | 0 => fun _ _ _ _ _ _ r h => by simp [ir_jump.j0] at h
 | k + 1 => by
  have ih0 := ir_jump.mono_l k
  ·intro y0 y1 y2 y3 y4 y5
   unfold ir_jump.j0
   repeat' first
   | (with_reducible exact LeO.refl _)
theorem ir_jump.mono : ∀ a0 a1 a2 a3 a4 k, LeO (ir_jump.f k a0 a1 a2 a3 a4) (ir_jump.f (k + 1) a0 a1 a2 a3 a4) := by
 intro a0 a1 a2 a3 a4 k
 have ih0 := ir_jump.mono_l k
 unfold ir_jump.f
 repeat' first
   | (with_reducible exact ih0 _ _ _ _ _ _)
   | (with_reducible exact LeO.refl _)
   | (with_reducible refine LeO.ite ?_ ?_)
def ir_jump.T4 : Bool × List (List Nat × List Nat) := (true, [([], []), ([0], [0]), ([1], [1]), ([2], [2]), ([3], [3]), ([], []), ([5], [5]), ([6], [6]), ([7, 2], [7]), ([4, 8], [4, 8]), ([9], [9]), ([], []), ([11], [11]), ([12], [12]), ([13, 8], [13]), ([10, 14], [10, 14]), ([15, 14, 0, 1, 2, 3, 4, 5, 6, 7, 8, 9, 10, 11, 12, 13, 14, 15], [15])])
def ir_jump.B4 : List Nat := [0, 1, 3, 7, 15, 0, 32, 96, 231, 511, 1023, 0, 2048, 6144, 14823, 32767, 65535]
theorem ir_jump.tab4 : rtab .any (opsOf Tryd.f48 4) = ir_jump.T4 := by kernel_rfl
theorem ir_jump.bits4 : waitsOk ir_jump.T4.2 ir_jump.B4 = true := by kernel_rfl
set_option maxHeartbeats 8000000 in
set_option maxRecDepth 100000 in
theorem ir_jump.calls (k : Nat) (A0_0 : Option Addr) (c0_0 : Nat) (l0_0 : List Int) (a0_1 : Int) (a0_2 : Int) (a0_3 : Int) (a0_4 : Int) (r : ByteArray) (w : World) (hr0_0 : Kd.C (Kd.int .i64) w A0_0 l0_0.length l0_0) (hc0_0 : l0_0.length ≤ c0_0) (h : ir_jump.f k l0_0 a0_1 a0_2 a0_3 a0_4 = some r) (hG : Glob w := by first | assumption | (refine Glob.below (by assumption) ?_; repeat (first | with_reducible exact (Aside0.out (by assumption)) | (refine below_set ?_ (Aside0.out (by assumption))) | (with_reducible first | apply below_alloc | apply pw_below_drewN | apply below_drew1) | exact (Aside0.out (by assumption))))) :
  Calls Tryd.prog 48 #[.agg #[.slice A0_0 l0_0.length c0_0, .int .i64 a0_1, .int .i64 a0_2, .int .i64 a0_3, .int .i64 a0_4]] w fun e w' => e = .returned (.string r) ∧ Below w.heap.size w w' := by
 have hu53 := Tryd.underlying53
 have HR0_0 := Aside0.mk hr0_0
 have HC0_0 := Aside0.mk hc0_0
 clear hr0_0 hc0_0
 have HB := Aside0.mk (Below.refl w.heap.size w)
 have H : (if a0_1 = 1 then ((strconv_Itoa_42.f a0_3).bind fun t149 => (if 5 + t149.size ≤ 9223372036854775807 then (some ((⟨#[103, 111, 116, 111, 32]⟩ : ByteArray) ++ t149)) else (none))) else (if a0_1 = 2 then ((ir_value.f a0_2).bind fun t150 => (if 3 + t150.size ≤ 9223372036854775807 then (if ((⟨#[105, 102, 32]⟩ : ByteArray) ++ t150).size + 1 ≤ 9223372036854775807 then ((strconv_Itoa_42.f a0_3).bind fun t151 => (if (((⟨#[105, 102, 32]⟩ : ByteArray) ++ t150) ++ (⟨#[32]⟩ : ByteArray)).size + t151.size ≤ 9223372036854775807 then (if ((((⟨#[105, 102, 32]⟩ : ByteArray) ++ t150) ++ (⟨#[32]⟩ : ByteArray)) ++ t151).size + 1 ≤ 9223372036854775807 then ((strconv_Itoa_42.f a0_4).bind fun t152 => (if (((((⟨#[105, 102, 32]⟩ : ByteArray) ++ t150) ++ (⟨#[32]⟩ : ByteArray)) ++ t151) ++ (⟨#[32]⟩ : ByteArray)).size + t152.size ≤ 9223372036854775807 then (some ((((((⟨#[105, 102, 32]⟩ : ByteArray) ++ t150) ++ (⟨#[32]⟩ : ByteArray)) ++ t151) ++ (⟨#[32]⟩ : ByteArray)) ++ t152)) else (none))) else (none)) else (none))) else (none)) else (none))) else (if a0_1 = 3 then (ir_jump.j0 k (a0_2 == (-1)) l0_0 a0_1 a0_2 a0_3 a0_4) else (ir_jump.j0 k false l0_0 a0_1 a0_2 a0_3 a0_4)))) = some r := h
 clear h
 by_cases c2 : a0_1 = 1
 ·rw [if_pos c2] at H
  have c2b0 : (a0_1 == 1) = true := beq_iff_eq.mpr c2
  have c2b1 : (a0_1 != 1) = false := bne_eq_false_iff_eq.mpr c2
  clear c2
  replace H := Option.bind_eq_some_iff.mp H
  obtain ⟨t149, A30, H⟩ := H
  (try dsimp only at H)
  have A3 := Aside0.mk A30
  clear A30
  by_cases c4 : 5 + t149.size ≤ 9223372036854775807
  ·rw [if_pos c4] at H
   have c4b0 := eq_true c4
   have c4b1 := decide_eq_true c4
   try have c4b2 : (9223372036854775807 < 5 + t149.size) = False := eq_false (Nat.not_lt.2 c4)
   obtain rfl := Option.some.inj H
   go_enter Tryd.func48, Tryd.ntmps48
   go_wp2_with (first | ((with_reducible refine gate_dst (N := 1) rfl ?_); refine box_event ?hg (N := 1) ?hd (cs := #[.slice A0_0 l0_0.length c0_0, .int .i64 a0_1, .int .i64 a0_2, .int .i64 a0_3, .int .i64 a0_4]) (t := 53) ?hr ?_; (case hd => rfl); (case hg => rfl); (case hr => first | (go_simp; done) | (go_simp; rfl)); intro gb148 hg w5 hbox hb; have n0_ := Aside0.mk (below_step (bq51) hb); have n1_ := Aside0.mk (hbox); have n2_ := Aside0.mk ((bq35 : w.heap.size ≤ gb148)); have n3_ := Aside0.mk ((bq35 : w.heap.size ≤ gb148)); clear HB; have HB := n0_; have BK148 := n1_; have GW148 := n2_; have GE148 := n3_; clear n0_ n1_ n2_ n3_ hb hbox hg; obtain ⟨hcz6_0, hcz6_1, hcz6_2, hcz6_3, hcz6_4, hfz6_0, hfz6_1, hfz6_2, hfz6_3, hfz6_4⟩ := bk5 BK148.out) | ((with_reducible refine gate_callee (f := 42) rfl ?_); refine goesL_ (some 10) rfl rfl Tryd.func42 (by kernel_rfl) rfl #[.int .i64 a0_3] rfl (bq48) ?_; (with_reducible refine (strconv_Itoa_42.calls a0_3 t149 _ A3.out).mono ?_); rintro e w7 ⟨rfl, hb⟩; refine ⟨_, rfl, ?_⟩; have n0_ := Aside0.mk (blkB BK148.out hb); have n1_ := Aside0.mk (below_step (bq37) hb); clear BK148 HB; have BK148 := n0_; have HB := n1_; clear n0_ n1_ hb))
   go_ret
   exact ⟨by first | rfl | (simp [errW_none, errW_some] <;> rfl) | (simp [*, errW_none, errW_some] <;> rfl), bq37⟩
  ·rw [if_neg c4] at H
   exact absurd H (by simp)
 ·rw [if_neg c2] at H
  have c2b0 : (a0_1 == 1) = false := beq_eq_false_iff_ne.mpr c2
  have c2b1 : (a0_1 != 1) = true := bne_iff_ne.mpr c2
  by_cases c8 : a0_1 = 2
  ·rw [if_pos c8] at H
   have c8b0 : (a0_1 == 2) = true := beq_iff_eq.mpr c8
   have c8b1 : (a0_1 != 2) = false := bne_eq_false_iff_eq.mpr c8
   clear c8
   replace H := Option.bind_eq_some_iff.mp H
   obtain ⟨t150, A90, H⟩ := H
   (try dsimp only at H)
   have A9 := Aside0.mk A90
   clear A90
   by_cases c10 : 3 + t150.size ≤ 9223372036854775807
   ·rw [if_pos c10] at H
    have c10b0 := eq_true c10
    have c10b1 := decide_eq_true c10
    try have c10b2 : (9223372036854775807 < 3 + t150.size) = False := eq_false (Nat.not_lt.2 c10)
    by_cases c11 : ((⟨#[105, 102, 32]⟩ : ByteArray) ++ t150).size + 1 ≤ 9223372036854775807
    ·rw [if_pos c11] at H
     have c11b0 := eq_true c11
     have c11b1 := decide_eq_true c11
     try have c11b2 : (9223372036854775807 < ((⟨#[105, 102, 32]⟩ : ByteArray) ++ t150).size + 1) = False := eq_false (Nat.not_lt.2 c11)
     try have c11b3 : (9223372036854775807 < 3 + t150.size + 1) = False := eq_false (Nat.not_lt.2 (by have h_ := c11; simp only [ByteArray.size_append] at h_; exact h_))
     replace H := Option.bind_eq_some_iff.mp H
     obtain ⟨t151, A120, H⟩ := H
     (try dsimp only at H)
     have A12 := Aside0.mk A120
     clear A120
     by_cases c13 : (((⟨#[105, 102, 32]⟩ : ByteArray) ++ t150) ++ (⟨#[32]⟩ : ByteArray)).size + t151.size ≤ 9223372036854775807
     ·rw [if_pos c13] at H
      have c13b0 := eq_true c13
      have c13b1 := decide_eq_true c13
      try have c13b2 : (9223372036854775807 < (((⟨#[105, 102, 32]⟩ : ByteArray) ++ t150) ++ (⟨#[32]⟩ : ByteArray)).size + t151.size) = False := eq_false (Nat.not_lt.2 c13)
      try have c13b3 : (9223372036854775807 < 3 + t150.size + 1 + t151.size) = False := eq_false (Nat.not_lt.2 (by have h_ := c13; simp only [ByteArray.size_append] at h_; exact h_))
      by_cases c14 : ((((⟨#[105, 102, 32]⟩ : ByteArray) ++ t150) ++ (⟨#[32]⟩ : ByteArray)) ++ t151).size + 1 ≤ 9223372036854775807
      ·rw [if_pos c14] at H
       have c14b0 := eq_true c14
       have c14b1 := decide_eq_true c14
       try have c14b2 : (9223372036854775807 < ((((⟨#[105, 102, 32]⟩ : ByteArray) ++ t150) ++ (⟨#[32]⟩ : ByteArray)) ++ t151).size + 1) = False := eq_false (Nat.not_lt.2 c14)
       try have c14b3 : (9223372036854775807 < 3 + t150.size + 1 + t151.size + 1) = False := eq_false (Nat.not_lt.2 (by have h_ := c14; simp only [ByteArray.size_append] at h_; exact h_))
       replace H := Option.bind_eq_some_iff.mp H
       obtain ⟨t152, A150, H⟩ := H
       (try dsimp only at H)
       have A15 := Aside0.mk A150
       clear A150
       by_cases c16 : (((((⟨#[105, 102, 32]⟩ : ByteArray) ++ t150) ++ (⟨#[32]⟩ : ByteArray)) ++ t151) ++ (⟨#[32]⟩ : ByteArray)).size + t152.size ≤ 9223372036854775807
       ·rw [if_pos c16] at H
        have c16b0 := eq_true c16
        have c16b1 := decide_eq_true c16
        try have c16b2 : (9223372036854775807 < (((((⟨#[105, 102, 32]⟩ : ByteArray) ++ t150) ++ (⟨#[32]⟩ : ByteArray)) ++ t151) ++ (⟨#[32]⟩ : ByteArray)).size + t152.size) = False := eq_false (Nat.not_lt.2 c16)
        try have c16b3 : (9223372036854775807 < 3 + t150.size + 1 + t151.size + 1 + t152.size) = False := eq_false (Nat.not_lt.2 (by have h_ := c16; simp only [ByteArray.size_append] at h_; exact h_))
        obtain rfl := Option.some.inj H
        go_enter Tryd.func48, Tryd.ntmps48
        try go_wp2_with (first | ((with_reducible refine gate_dst (N := 1) rfl ?_); refine box_event ?hg (N := 1) ?hd (cs := #[.slice A0_0 l0_0.length c0_0, .int .i64 a0_1, .int .i64 a0_2, .int .i64 a0_3, .int .i64 a0_4]) (t := 53) ?hr ?_; (case hd => rfl); (case hg => rfl); (case hr => first | (go_simp; done) | (go_simp; rfl)); intro gb148 hg w17 hbox hb; have n0_ := Aside0.mk (below_step (bq51) hb); have n1_ := Aside0.mk (hbox); have n2_ := Aside0.mk ((bq35 : w.heap.size ≤ gb148)); have n3_ := Aside0.mk ((bq35 : w.heap.size ≤ gb148)); clear HB; have HB := n0_; have BK148 := n1_; have GW148 := n2_; have GE148 := n3_; clear n0_ n1_ n2_ n3_ hb hbox hg; obtain ⟨hcz18_0, hcz18_1, hcz18_2, hcz18_3, hcz18_4, hfz18_0, hfz18_1, hfz18_2, hfz18_3, hfz18_4⟩ := bk5 BK148.out))
        have n0_ := Aside0.mk (blk_drew BK148.out)
        have n1_ := Aside0.mk (below_drew1 HB.out)
        clear BK148 HB
        have BK148 := n0_
        have HB := n1_
        clear n0_ n1_
        refine start_ (n := 17) (S := fun w' => w'.cell? ⟨gb148, 0, none⟩ = some (.slice A0_0 l0_0.length c0_0) ∧ w'.cell? ⟨gb148, 1, none⟩ = some (.int .i64 a0_1) ∧ w'.cell? ⟨gb148, 2, none⟩ = some (.int .i64 a0_2) ∧ w'.cell? ⟨gb148, 3, none⟩ = some (.int .i64 a0_3) ∧ w'.cell? ⟨gb148, 4, none⟩ = some (.int .i64 a0_4)) (ds := []) (tf 0 17) (by kernel_rfl) rfl rfl ⟨(blk_cell BK148.out 0).trans rfl, (blk_cell BK148.out 1).trans rfl, (blk_cell BK148.out 2).trans rfl, (blk_cell BK148.out 3).trans rfl, (blk_cell BK148.out 4).trans rfl⟩ (fun hHeld => ?_); refine with_tabW ir_jump.tab4 ir_jump.bits4 (fun HT_ HW_ => ?_)
        generalize w17.drew = w19 at BK148 HB hHeld ⊢
        refine pure_ (i := 0) (N := some 16) (v := ?_) (a' := ?_) (tf 1 16) rfl rfl (any_of HT_.out (by kernel_rfl)) (fun _ _ _ h => h) (Or.inl ⟨by rfl, ?_⟩) ?_ ?_
        rotate_left
        ·intro w'
         go_simp
         with_reducible rfl
        rotate_left
        ·simp only [Act.put, List.setIfInBounds_toArray, List.set_cons_zero, List.set_cons_succ, i64_w, i32_w]
         rfl
        refine pure_ (i := 5) (N := some 21) (v := ?_) (a' := ?_) #[true, false, false, false, false, true, false, false, false, false, false, false, false, false, false, false, false] rfl rfl (any_of HT_.out (by kernel_rfl)) (fun _ _ _ h => h) (Or.inl ⟨by rfl, ?_⟩) ?_ ?_
        rotate_left
        ·intro w'
         go_simp
         with_reducible rfl
        rotate_left
        ·simp only [Act.put, List.setIfInBounds_toArray, List.set_cons_zero, List.set_cons_succ, i64_w, i32_w]
         rfl
        refine pure_ (i := 6) (N := some 22) (v := ?_) (a' := ?_) #[true, false, false, false, false, true, true, false, false, false, false, false, false, false, false, false, false] rfl rfl (any_of HT_.out (by kernel_rfl)) (fun _ _ _ h => h) (Or.inl ⟨by rfl, ?_⟩) ?_ ?_
        rotate_left
        ·intro w'
         go_simp
         with_reducible rfl
        rotate_left
        ·simp only [Act.put, List.setIfInBounds_toArray, List.set_cons_zero, List.set_cons_succ, i64_w, i32_w]
         rfl
        refine pure_ (i := 11) (N := some 27) (v := ?_) (a' := ?_) #[true, false, false, false, false, true, true, false, false, false, false, true, false, false, false, false, false] rfl rfl (any_of HT_.out (by kernel_rfl)) (fun _ _ _ h => h) (Or.inl ⟨by rfl, ?_⟩) ?_ ?_
        rotate_left
        ·intro w'
         go_simp
         with_reducible rfl
        rotate_left
        ·simp only [Act.put, List.setIfInBounds_toArray, List.set_cons_zero, List.set_cons_succ, i64_w, i32_w]
         rfl
        refine pure_ (i := 12) (N := some 28) (v := ?_) (a' := ?_) #[true, false, false, false, false, true, true, false, false, false, false, true, true, false, false, false, false] rfl rfl (any_of HT_.out (by kernel_rfl)) (fun _ _ _ h => h) (Or.inl ⟨by rfl, ?_⟩) ?_ ?_
        rotate_left
        ·intro w'
         go_simp
         with_reducible rfl
        rotate_left
        ·simp only [Act.put, List.setIfInBounds_toArray, List.set_cons_zero, List.set_cons_succ, i64_w, i32_w]
         rfl
        refine take_ (i := 1) (N := some 17) (v := ?_) (a' := ?_) #[true, true, false, false, false, true, true, false, false, false, false, true, true, false, false, false, false] rfl rfl (take_ofW HT_.out HW_.out (by kernel_rfl)) (fun _ _ _ h => h) (Or.inl ⟨by rfl, ?_⟩) hHeld ?_ ?_
        rotate_left
        ·rintro w' ⟨s0, s1, s2, s3, s4⟩
         go_simp
         with_reducible rfl
        rotate_left
        ·simp only [Act.put, List.setIfInBounds_toArray, List.set_cons_zero, List.set_cons_succ, i64_w, i32_w]
         rfl
        refine take_ (i := 7) (N := some 23) (v := ?_) (a' := ?_) #[true, true, false, false, false, true, true, true, false, false, false, true, true, false, false, false, false] rfl rfl (take_ofW HT_.out HW_.out (by kernel_rfl)) (fun _ _ _ h => h) (Or.inl ⟨by rfl, ?_⟩) hHeld ?_ ?_
        rotate_left
        ·rintro w' ⟨s0, s1, s2, s3, s4⟩
         go_simp
         with_reducible rfl
        rotate_left
        ·simp only [Act.put, List.setIfInBounds_toArray, List.set_cons_zero, List.set_cons_succ, i64_w, i32_w]
         rfl
        refine take_ (i := 13) (N := some 29) (v := ?_) (a' := ?_) #[true, true, false, false, false, true, true, true, false, false, false, true, true, true, false, false, false] rfl rfl (take_ofW HT_.out HW_.out (by kernel_rfl)) (fun _ _ _ h => h) (Or.inl ⟨by rfl, ?_⟩) hHeld ?_ ?_
        rotate_left
        ·rintro w' ⟨s0, s1, s2, s3, s4⟩
         go_simp
         with_reducible rfl
        rotate_left
        ·simp only [Act.put, List.setIfInBounds_toArray, List.set_cons_zero, List.set_cons_succ, i64_w, i32_w]
         rfl
        refine one_ (i := 2) (N := some 18) #[true, true, true, false, false, true, true, true, false, false, false, true, true, true, false, false, false] rfl rfl (one_of HT_.out (by kernel_rfl)) (by decide) (fun K hK => ?_)
        refine goes_ Tryd.func41 (by kernel_rfl) rfl #[.int .i64 a0_2] (by rfl) rfl rfl (bq48) ?_
        with_reducible refine (ir_value.calls a0_2 t150 _ A9.out).mono ?_
        rintro e w20 ⟨rfl, hb⟩
        refine ⟨_, rfl, ?_⟩
        have n0_ := Aside0.mk (blkB BK148.out hb)
        have n1_ := Aside0.mk (below_step (bq37) hb)
        clear BK148 HB
        have BK148 := n0_
        have HB := n1_
        clear n0_ n1_ hb
        refine hK.out _ _ ⟨(blk_cell BK148.out 0).trans rfl, (blk_cell BK148.out 1).trans rfl, (blk_cell BK148.out 2).trans rfl, (blk_cell BK148.out 3).trans rfl, (blk_cell BK148.out 4).trans rfl⟩ (fun hHeld => ?_)
        clear hK K
        refine norm_ (a' := ?_) ?_ ?_
        rotate_left
        ·show Act.put _ (some 18) _ = _
         simp only [Act.put, List.setIfInBounds_toArray, List.set_cons_zero, List.set_cons_succ, i64_w, i32_w]
         rfl
        refine pure_ (i := 3) (N := some 19) (v := ?_) (a' := ?_) #[true, true, true, true, false, true, true, true, false, false, false, true, true, true, false, false, false] rfl rfl (any_of HT_.out (by kernel_rfl)) (fun _ _ _ h => h) (Or.inl ⟨by rfl, ?_⟩) ?_ ?_
        rotate_left
        ·intro w'
         go_simp
         with_reducible rfl
        rotate_left
        ·simp only [Act.put, List.setIfInBounds_toArray, List.set_cons_zero, List.set_cons_succ, i64_w, i32_w]
         rfl
        refine pure_ (i := 4) (N := some 20) (v := ?_) (a' := ?_) #[true, true, true, true, true, true, true, true, false, false, false, true, true, true, false, false, false] rfl rfl (any_of HT_.out (by kernel_rfl)) (fun _ _ _ h => h) (Or.inl ⟨by rfl, ?_⟩) ?_ ?_
        rotate_left
        ·intro w'
         go_simp
         with_reducible rfl
        rotate_left
        ·simp only [Act.put, List.setIfInBounds_toArray, List.set_cons_zero, List.set_cons_succ, i64_w, i32_w]
         rfl
        refine one_ (i := 8) (N := some 24) #[true, true, true, true, true, true, true, true, true, false, false, true, true, true, false, false, false] rfl rfl (one_of HT_.out (by kernel_rfl)) (by decide) (fun K hK => ?_)
        refine goes_ Tryd.func42 (by kernel_rfl) rfl #[.int .i64 a0_3] (by rfl) rfl rfl (bq48) ?_
        with_reducible refine (strconv_Itoa_42.calls a0_3 t151 _ A12.out).mono ?_
        rintro e w21 ⟨rfl, hb⟩
        refine ⟨_, rfl, ?_⟩
        have n0_ := Aside0.mk (blkB BK148.out hb)
        have n1_ := Aside0.mk (below_step (bq37) hb)
        clear BK148 HB
        have BK148 := n0_
        have HB := n1_
        clear n0_ n1_ hb
        refine hK.out _ _ ⟨(blk_cell BK148.out 0).trans rfl, (blk_cell BK148.out 1).trans rfl, (blk_cell BK148.out 2).trans rfl, (blk_cell BK148.out 3).trans rfl, (blk_cell BK148.out 4).trans rfl⟩ (fun hHeld => ?_)
        clear hK K
        refine norm_ (a' := ?_) ?_ ?_
        rotate_left
        ·show Act.put _ (some 24) _ = _
         simp only [Act.put, List.setIfInBounds_toArray, List.set_cons_zero, List.set_cons_succ, i64_w, i32_w]
         rfl
        refine pure_ (i := 9) (N := some 25) (v := ?_) (a' := ?_) #[true, true, true, true, true, true, true, true, true, true, false, true, true, true, false, false, false] rfl rfl (any_of HT_.out (by kernel_rfl)) (fun _ _ _ h => h) (Or.inl ⟨by rfl, ?_⟩) ?_ ?_
        rotate_left
        ·intro w'
         go_simp
         with_reducible rfl
        rotate_left
        ·simp only [Act.put, List.setIfInBounds_toArray, List.set_cons_zero, List.set_cons_succ, i64_w, i32_w]
         rfl
        refine pure_ (i := 10) (N := some 26) (v := ?_) (a' := ?_) (tf 14 3) rfl rfl (any_of HT_.out (by kernel_rfl)) (fun _ _ _ h => h) (Or.inl ⟨by rfl, ?_⟩) ?_ ?_
        rotate_left
        ·intro w'
         go_simp
         with_reducible rfl
        rotate_left
        ·simp only [Act.put, List.setIfInBounds_toArray, List.set_cons_zero, List.set_cons_succ, i64_w, i32_w]
         rfl
        refine one_ (i := 14) (N := some 30) (tf 15 2) rfl rfl (one_of HT_.out (by kernel_rfl)) (by decide) (fun K hK => ?_)
        refine goes_ Tryd.func42 (by kernel_rfl) rfl #[.int .i64 a0_4] (by rfl) rfl rfl (bq48) ?_
        with_reducible refine (strconv_Itoa_42.calls a0_4 t152 _ A15.out).mono ?_
        rintro e w22 ⟨rfl, hb⟩
        refine ⟨_, rfl, ?_⟩
        have n0_ := Aside0.mk (blkB BK148.out hb)
        have n1_ := Aside0.mk (below_step (bq37) hb)
        clear BK148 HB
        have BK148 := n0_
        have HB := n1_
        clear n0_ n1_ hb
        refine hK.out _ _ ⟨(blk_cell BK148.out 0).trans rfl, (blk_cell BK148.out 1).trans rfl, (blk_cell BK148.out 2).trans rfl, (blk_cell BK148.out 3).trans rfl, (blk_cell BK148.out 4).trans rfl⟩ (fun hHeld => ?_)
        clear hK K
        refine norm_ (a' := ?_) ?_ ?_
        rotate_left
        ·show Act.put _ (some 30) _ = _
         simp only [Act.put, List.setIfInBounds_toArray, List.set_cons_zero, List.set_cons_succ, i64_w, i32_w]
         rfl
        refine pure_ (i := 15) (N := some 31) (v := ?_) (a' := ?_) (tf 16 1) rfl rfl (any_of HT_.out (by kernel_rfl)) (fun _ _ _ h => h) (Or.inl ⟨by rfl, ?_⟩) ?_ ?_
        rotate_left
        ·intro w'
         go_simp
         with_reducible rfl
        rotate_left
        ·simp only [Act.put, List.setIfInBounds_toArray, List.set_cons_zero, List.set_cons_succ, i64_w, i32_w]
         rfl
        refine pure_ (i := 16) (N := some 2) (v := ?_) (a' := ?_) (tf 17 0) rfl rfl (any_of HT_.out (by kernel_rfl)) (fun _ _ _ h => h) (Or.inl ⟨by rfl, ?_⟩) ?_ ?_
        rotate_left
        ·intro w'
         go_simp
         with_reducible rfl
        rotate_left
        ·simp only [Act.put, List.setIfInBounds_toArray, List.set_cons_zero, List.set_cons_succ, i64_w, i32_w]
         rfl
        refine done_ (done_of HT_.out (by kernel_rfl)) ?_
        try go_wp2
        go_ret
        exact ⟨by first | rfl | (simp [errW_none, errW_some] <;> rfl) | (simp [*, errW_none, errW_some] <;> rfl), bq37⟩
       ·rw [if_neg c16] at H
        exact absurd H (by simp)
      ·rw [if_neg c14] at H
       exact absurd H (by simp)
     ·rw [if_neg c13] at H
      exact absurd H (by simp)
    ·rw [if_neg c11] at H
     exact absurd H (by simp)
   ·rw [if_neg c10] at H
    exact absurd H (by simp)
  ·rw [if_neg c8] at H
   have c8b0 : (a0_1 == 2) = false := beq_eq_false_iff_ne.mpr c8
   have c8b1 : (a0_1 != 2) = true := bne_iff_ne.mpr c8
   have HC23 := Aside0.mk H
   clear H
   go_enter Tryd.func48, Tryd.ntmps48
   go_upto_region 5 with (first | ((with_reducible refine gate_dst (N := 1) rfl ?_); refine box_event ?hg (N := 1) ?hd (cs := #[.slice A0_0 l0_0.length c0_0, .int .i64 a0_1, .int .i64 a0_2, .int .i64 a0_3, .int .i64 a0_4]) (t := 53) ?hr ?_; (case hd => rfl); (case hg => rfl); (case hr => first | (go_simp; done) | (go_simp; rfl)); intro gb148 hg w24 hbox hb; have n0_ := Aside0.mk (below_step (bq51) hb); have n1_ := Aside0.mk (hbox); have n2_ := Aside0.mk ((bq35 : w.heap.size ≤ gb148)); have n3_ := Aside0.mk ((bq35 : w.heap.size ≤ gb148)); clear HB; have HB := n0_; have BK148 := n1_; have GW148 := n2_; have GE148 := n3_; clear n0_ n1_ n2_ n3_ hb hbox hg; obtain ⟨hcz25_0, hcz25_1, hcz25_2, hcz25_3, hcz25_4, hfz25_0, hfz25_1, hfz25_2, hfz25_3, hfz25_4⟩ := bk5 BK148.out))
   (try simp only [Act.put, List.setIfInBounds_toArray, List.set_cons_zero, List.set_cons_succ])
   go_cut [32] (fun v32 wc => ∃ (kq : Nat) (x32_22 : Bool), v32 = .bool x32_22 ∧ Aside0 (ir_jump.j0 kq x32_22 l0_0 a0_1 a0_2 a0_3 a0_4 = some r) ∧ Aside0 (kq ≤ k) ∧ Aside0 (wc.heap[gb148]? = some (.cells #[(.slice A0_0 l0_0.length c0_0), .int .i64 a0_1, .int .i64 a0_2, .int .i64 a0_3, .int .i64 a0_4] 53 (0, 0))) ∧ Aside0 (Below w.heap.size w wc))
   case first =>
    have H := HC23.out
    clear HC23
    by_cases c26 : a0_1 = 3
    ·rw [if_pos c26] at H
     have c26b0 : (a0_1 == 3) = true := beq_iff_eq.mpr c26
     have c26b1 : (a0_1 != 3) = false := bne_eq_false_iff_eq.mpr c26
     clear c26
     (first | rw [c26b0] | rw [c26b1] | rw [c26b4] | (simp only [i64_w, i32_w]; rw [c26b0]) | skip)
     have H' := Aside0.mk H
     clear H
     obtain ⟨hcz27_0, hcz27_1, hcz27_2, hcz27_3, hcz27_4, hfz27_0, hfz27_1, hfz27_2, hfz27_3, hfz27_4⟩ := bk5 BK148.out
     go_wp2
     go_meet
     case rel => exact ⟨_, ((a0_2 == (-1))), (bq78), H', ⟨by first | omega | exact Nat.le_refl _⟩, ⟨by (with_reducible repeat (first | refine blk_drewN ?_ _ | refine blk_drew ?_ | refine blk_alloc ?_ _)); exact BK148.out⟩, ⟨bq37⟩⟩
    ·rw [if_neg c26] at H
     have c26b0 : (a0_1 == 3) = false := beq_eq_false_iff_ne.mpr c26
     have c26b1 : (a0_1 != 3) = true := bne_iff_ne.mpr c26
     (first | rw [c26b0] | rw [c26b1] | rw [c26b4] | (simp only [i64_w, i32_w]; rw [c26b0]) | skip)
     have H' := Aside0.mk H
     clear H
     obtain ⟨hcz28_0, hcz28_1, hcz28_2, hcz28_3, hcz28_4, hfz28_0, hfz28_1, hfz28_2, hfz28_3, hfz28_4⟩ := bk5 BK148.out
     go_wp2
     go_meet
     case rel => exact ⟨_, (false), (bq78), H', ⟨by first | omega | exact Nat.le_refl _⟩, ⟨by (with_reducible repeat (first | refine blk_drewN ?_ _ | refine blk_drew ?_ | refine blk_alloc ?_ _)); exact BK148.out⟩, ⟨bq37⟩⟩
   case rest =>
    clear HC23 c2 c2b0 c2b1 c8 c8b0 c8b1 hcz25_0 hcz25_1 hcz25_2 hcz25_3 hcz25_4 hfz25_0 hfz25_1 hfz25_2 hfz25_3 hfz25_4
    obtain ⟨kq, x32_22, rfl, HA, HJ22, BK148, HB⟩ := hcut
    cases kq with
    | zero => exact absurd HA.out (by simp [ir_jump.j0])
    | succ kj22 =>
     have H := HA.out
     clear HA
     simp only [ir_jump.j0] at H
     by_cases c29 : x32_22 = true
     ·subst c29
      have H1 := H; rw [if_pos rfl] at H1; (try dsimp only at H1)
      clear H
      have H := H1
      clear H1
      obtain rfl := Option.some.inj H
      go_wp2
      go_ret
      exact ⟨by first | rfl | (simp [errW_none, errW_some] <;> rfl) | (simp [*, errW_none, errW_some] <;> rfl), bq37⟩
     ·replace c29 := Bool.eq_false_iff.mpr c29
      subst c29
      have H1 := H; rw [if_neg (show ¬ (false = true) by decide)] at H1; (try dsimp only at H1)
      clear H
      have H := H1
      clear H1
      by_cases c30 : a0_1 = 3
      ·rw [if_pos c30] at H
       have c30b0 : (a0_1 == 3) = true := beq_iff_eq.mpr c30
       have c30b1 : (a0_1 != 3) = false := bne_eq_false_iff_eq.mpr c30
       clear c30
       replace H := Option.bind_eq_some_iff.mp H
       obtain ⟨t153, A310, H⟩ := H
       (try dsimp only at H)
       have A31 := Aside0.mk A310
       clear A310
       by_cases c32 : 4 + t153.size ≤ 9223372036854775807
       ·rw [if_pos c32] at H
        have c32b0 := eq_true c32
        have c32b1 := decide_eq_true c32
        try have c32b2 : (9223372036854775807 < 4 + t153.size) = False := eq_false (Nat.not_lt.2 c32)
        obtain rfl := Option.some.inj H
        obtain ⟨hcz33_0, hcz33_1, hcz33_2, hcz33_3, hcz33_4, hfz33_0, hfz33_1, hfz33_2, hfz33_3, hfz33_4⟩ := bk5 BK148.out
        go_wp2_with (first | ((with_reducible refine gate_callee (f := 41) rfl ?_); refine goesL_ (some 47) rfl rfl Tryd.func41 (by kernel_rfl) rfl #[.int .i64 a0_2] rfl (bq48) ?_; (with_reducible refine (ir_value.calls a0_2 t153 _ A31.out).mono ?_); rintro e w34 ⟨rfl, hb⟩; refine ⟨_, rfl, ?_⟩; have n0_ := Aside0.mk (blkB BK148.out hb); have n1_ := Aside0.mk (below_step (bq37) hb); clear BK148 HB; have BK148 := n0_; have HB := n1_; clear n0_ n1_ hb))
        go_ret
        exact ⟨by first | rfl | (simp [errW_none, errW_some] <;> rfl) | (simp [*, errW_none, errW_some] <;> rfl), bq37⟩
       ·rw [if_neg c32] at H
        exact absurd H (by simp)
      ·rw [if_neg c30] at H
       have c30b0 : (a0_1 == 3) = false := beq_eq_false_iff_ne.mpr c30
       have c30b1 : (a0_1 != 3) = true := bne_iff_ne.mpr c30
       replace H := Option.bind_eq_some_iff.mp H
       obtain ⟨t154, A350, H⟩ := H
       (try dsimp only at H)
       have A35 := Aside0.mk A350
       clear A350
       by_cases c36 : 5 + t154.size ≤ 9223372036854775807
       ·rw [if_pos c36] at H
        have c36b0 := eq_true c36
        have c36b1 := decide_eq_true c36
        try have c36b2 : (9223372036854775807 < 5 + t154.size) = False := eq_false (Nat.not_lt.2 c36)
        obtain rfl := Option.some.inj H
        obtain ⟨hcz37_0, hcz37_1, hcz37_2, hcz37_3, hcz37_4, hfz37_0, hfz37_1, hfz37_2, hfz37_3, hfz37_4⟩ := bk5 BK148.out
        go_wp2_with (first | ((with_reducible refine gate_callee (f := 42) rfl ?_); refine goesL_ (some 51) rfl rfl Tryd.func42 (by kernel_rfl) rfl #[.int .i64 a0_1] rfl (bq48) ?_; (with_reducible refine (strconv_Itoa_42.calls a0_1 t154 _ A35.out).mono ?_); rintro e w38 ⟨rfl, hb⟩; refine ⟨_, rfl, ?_⟩; have n0_ := Aside0.mk (blkB BK148.out hb); have n1_ := Aside0.mk (below_step (bq37) hb); clear BK148 HB; have BK148 := n0_; have HB := n1_; clear n0_ n1_ hb))
        go_ret
        exact ⟨by first | rfl | (simp [errW_none, errW_some] <;> rfl) | (simp [*, errW_none, errW_some] <;> rfl), bq37⟩
       ·rw [if_neg c36] at H
        exact absurd H (by simp)
/-! ### ir_function: function 30 -/
mutual
def ir_function.j0 : Nat → List ByteArray → ByteArray → List ByteArray → ByteArray → List ByteArray → List (S47) → List (S53) → Option (List ByteArray)
 | 0, _, _, _, _, _, _, _ => none
 | k + 1, x3, x156000, x156001, x156002, x156003, x156004, x156005 => (strings_Join.f x3 (⟨#[32]⟩ : ByteArray)).bind fun t168 => ((some (([t168] : List ByteArray) : List ByteArray)).bind fun y169 => (if (x156003.length : Int) > 0 then ((some (([(⟨#[115, 108, 111, 116, 115]⟩ : ByteArray)] : List ByteArray) : List ByteArray)).bind fun y172 => (if y172.length + x156003.length < 8796093022208 then ((strings_Join.f (y172 ++ x156003) (⟨#[32]⟩ : ByteArray)).bind fun t178 => (if y169.length < 8796093022208 then (ir_function.j1 k (y169 ++ [t178]) x156000 x156001 x156002 x156003 x156004 x156005) else (none))) else (none))) else (ir_function.j1 k y169 x156000 x156001 x156002 x156003 x156004 x156005)))
def ir_function.j1 : Nat → List ByteArray → ByteArray → List ByteArray → ByteArray → List ByteArray → List (S47) → List (S53) → Option (List ByteArray)
 | 0, _, _, _, _, _, _, _ => none
 | k + 1, x4, x156000, x156001, x156002, x156003, x156004, x156005 => ir_function.l0 k x4 x156005 (x156005.length : Int) 0 x156000 x156001 x156002 x156003 x156004 x156005
def ir_function.l0 : Nat → List ByteArray → List (S53) → Int → Int → ByteArray → List ByteArray → ByteArray → List ByteArray → List (S47) → List (S53) → Option (List ByteArray)
 | 0, _, _, _, _, _, _, _, _, _, _ => none
 | k + 1, x4, x41, x42, x43, x156000, x156001, x156002, x156003, x156004, x156005 => if x43 < x42 then (if 0 ≤ x43 then (if x43 < (x41.length : Int) then ((strconv_Itoa_42.f x43).bind fun t184 => (if 6 + t184.size ≤ 9223372036854775807 then (if x4.length < 8796093022208 then (ir_function.l1 k (x4 ++ [(⟨#[98, 108, 111, 99, 107, 32]⟩ : ByteArray) ++ t184]) x41 x42 x43 ((rd_T53 x41 x43).f0) (((rd_T53 x41 x43).f0).length : Int) 0 x156000 x156001 x156002 x156003 x156004 x156005 ((rd_T53 x41 x43).f0) ((rd_T53 x41 x43).f1) ((rd_T53 x41 x43).f2) ((rd_T53 x41 x43).f3.f0) ((rd_T53 x41 x43).f3.f1)) else (none)) else (none))) else (none)) else (none)) else (some x4)
def ir_function.l1 : Nat → List ByteArray → List (S53) → Int → Int → List Int → Int → Int → ByteArray → List ByteArray → ByteArray → List ByteArray → List (S47) → List (S53) → List Int → Int → Int → Int → Int → Option (List ByteArray)
 | 0, _, _, _, _, _, _, _, _, _, _, _, _, _, _, _, _, _, _ => none
 | k + 1, x4, x41, x42, x43, x55, x56, x57, x156000, x156001, x156002, x156003, x156004, x156005, x184000, x184001, x184002, x184003, x184004 => if x57 < x56 then (if 0 ≤ x57 then (if x57 < (x55.length : Int) then ((ir_Line.f k x156000 x156001 x156002 x156003 x156004 x156005 (rd x55 x57)).bind fun t189 => (if x4.length < 8796093022208 then (ir_function.l1 k (x4 ++ [t189]) x41 x42 x43 x55 x56 (wrap64 (x57 + 1)) x156000 x156001 x156002 x156003 x156004 x156005 x184000 x184001 x184002 x184003 x184004) else (none))) else (none)) else (none)) else ((ir_jump.f k x184000 x184001 x184002 x184003 x184004).bind fun t193 => (if x4.length < 8796093022208 then (ir_function.l0 k (x4 ++ [t193]) x41 x42 (wrap64 (x43 + 1)) x156000 x156001 x156002 x156003 x156004 x156005) else (none)))
end
def ir_function.f (k : Nat) (a0_0 : ByteArray) (l0_1 : List ByteArray) (a0_2 : ByteArray) (l0_3 : List ByteArray) (l0_4 : List (S47)) (l0_5 : List (S53)) : Option (List ByteArray) := (some (([(⟨#[102, 117, 110, 99]⟩ : ByteArray), a0_0] : List ByteArray) : List ByteArray)).bind fun y156 => (if y156.length + l0_1.length < 8796093022208 then ((some (y156 ++ l0_1 : List ByteArray)).bind fun y159 => (if y159.length < 8796093022208 then ((some (y159 ++ [(⟨#[45, 62]⟩ : ByteArray)] : List ByteArray)).bind fun y162 => (if a0_2.toList = ([] : List UInt8) then (ir_function.j0 k y162 a0_0 l0_1 a0_2 l0_3 l0_4 l0_5) else (if y162.length < 8796093022208 then (ir_function.j0 k (y162 ++ [a0_2]) a0_0 l0_1 a0_2 l0_3 l0_4 l0_5) else (none)))) else (none))) else (none))
theorem ir_function.mono_l : ∀ k, (∀ y0 y1 y2 y3 y4 y5 y6, LeO (ir_function.j0 k y0 y1 y2 y3 y4 y5 y6) (ir_function.j0 (k + 1) y0 y1 y2 y3 y4 y5 y6)) ∧ (∀ y0 y1 y2 y3 y4 y5 y6, LeO (ir_function.j1 k y0 y1 y2 y3 y4 y5 y6) (ir_function.j1 (k + 1) y0 y1 y2 y3 y4 y5 y6)) ∧ (∀ y0 y1 y2 y3 y4 y5 y6 y7 y8 y9, LeO (ir_function.l0 k y0 y1 y2 y3 y4 y5 y6 y7 y8 y9) (ir_function.l0 (k + 1) y0 y1 y2 y3 y4 y5 y6 y7 y8 y9)) ∧ (∀ y0 y1 y2 y3 y4 y5 y6 y7 y8 y9 y10 y11 y12 y13 y14 y15 y16 y17, LeO (ir_function.l1 k y0 y1 y2 y3 y4 y5 y6 y7 y8 y9 y10 y11 y12 y13 y14 y15 y16 y17) (ir_function.l1 (k + 1) y0 y1 y2 y3 y4 y5 y6 y7 y8 y9 y10 y11 y12 y13 y14 y15 y16 y17))
 | 0 => ⟨fun _ _ _ _ _ _ _ r h => by simp [ir_function.j0] at h, fun _ _ _ _ _ _ _ r h => by simp [ir_function.j1] at h, fun _ _ _ _ _ _ _ _ _ _ r h => by simp [ir_function.l0] at h, fun _ _ _ _ _ _ _ _ _ _ _ _ _ _ _ _ _ _ r h => by simp [ir_function.l1] at h⟩
 | k + 1 => by
  obtain ⟨ih0, ih1, ih2, ih3⟩ := ir_function.mono_l k
  refine ⟨?_, ?_, ?_, ?_⟩
  ·intro y0 y1 y2 y3 y4 y5 y6
   unfold ir_function.j0
   repeat' first
   | (with_reducible exact ih1 _ _ _ _ _ _ _)
   | (with_reducible exact LeO.refl _)
   | (with_reducible refine LeO.ite ?_ ?_)
   | (with_reducible refine LeO.bind ?_ (fun _ => ?_))
  ·intro y0 y1 y2 y3 y4 y5 y6
   unfold ir_function.j1
   repeat' first
   | (with_reducible exact ih2 _ _ _ _ _ _ _ _ _ _)
  ·intro y0 y1 y2 y3 y4 y5 y6 y7 y8 y9
   unfold ir_function.l0
   repeat' first
   | (with_reducible exact ih3 _ _ _ _ _ _ _ _ _ _ _ _ _ _ _ _ _ _)
   | (with_reducible exact LeO.refl _)
   | (with_reducible refine LeO.ite ?_ ?_)
   | (with_reducible refine LeO.bind ?_ (fun _ => ?_))
  ·intro y0 y1 y2 y3 y4 y5 y6 y7 y8 y9 y10 y11 y12 y13 y14 y15 y16 y17
   unfold ir_function.l1
   repeat' first
   | (with_reducible exact ih2 _ _ _ _ _ _ _ _ _ _)
   | (with_reducible exact ih3 _ _ _ _ _ _ _ _ _ _ _ _ _ _ _ _ _ _)
   | (with_reducible exact ir_Line.mono _ _ _ _ _ _ _ _)
   | (with_reducible exact ir_jump.mono _ _ _ _ _ _)
   | (with_reducible exact LeO.refl _)
   | (with_reducible refine LeO.ite ?_ ?_)
   | (with_reducible refine LeO.bind ?_ (fun _ => ?_))
theorem ir_function.mono : ∀ a0 a1 a2 a3 a4 a5 k, LeO (ir_function.f k a0 a1 a2 a3 a4 a5) (ir_function.f (k + 1) a0 a1 a2 a3 a4 a5) := by
 intro a0 a1 a2 a3 a4 a5 k
 obtain ⟨ih0, ih1, ih2, ih3⟩ := ir_function.mono_l k
 unfold ir_function.f
 repeat' first
   | (with_reducible exact ih0 _ _ _ _ _ _ _)
   | (with_reducible exact LeO.refl _)
   | (with_reducible refine LeO.ite ?_ ?_)
   | (with_reducible refine LeO.bind ?_ (fun _ => ?_))
set_option maxHeartbeats 8000000 in
set_option maxRecDepth 100000 in
theorem ir_function.calls (k : Nat) (a0_0 : ByteArray) (A0_1 : Option Addr) (c0_1 : Nat) (l0_1 : List ByteArray) (a0_2 : ByteArray) (A0_3 : Option Addr) (c0_3 : Nat) (l0_3 : List ByteArray) (A0_4 : Option Addr) (c0_4 : Nat) (l0_4 : List (S47)) (A0_5 : Option Addr) (c0_5 : Nat) (l0_5 : List (S53)) (r : List ByteArray) (w : World) (hr0_1 : Kd.C Kd.string w A0_1 l0_1.length l0_1) (hc0_1 : l0_1.length ≤ c0_1) (hr0_3 : Kd.C Kd.string w A0_3 l0_3.length l0_3) (hc0_3 : l0_3.length ≤ c0_3) (hr0_4 : Kd.C k47 w A0_4 l0_4.length l0_4) (hc0_4 : l0_4.length ≤ c0_4) (hr0_5 : Kd.C k53 w A0_5 l0_5.length l0_5) (hc0_5 : l0_5.length ≤ c0_5) (h : ir_function.f k a0_0 l0_1 a0_2 l0_3 l0_4 l0_5 = some r) (hG : Glob w := by first | assumption | (refine Glob.below (by assumption) ?_; repeat (first | with_reducible exact (Aside0.out (by assumption)) | (refine below_set ?_ (Aside0.out (by assumption))) | (with_reducible first | apply below_alloc | apply pw_below_drewN | apply below_drew1) | exact (Aside0.out (by assumption))))) :
  Calls Tryd.prog 30 #[.agg #[.string a0_0, .slice A0_1 l0_1.length c0_1, .string a0_2, .slice A0_3 l0_3.length c0_3, .slice A0_4 l0_4.length c0_4, .slice A0_5 l0_5.length c0_5]] w fun e w' => ∃ v0_ : Value, e = .returned (v0_) ∧ Kd.R Kd.string 9 w' w.heap.size (fun _ => True) v0_ r ∧ Below w.heap.size w w' := by
 have hu40 := Tryd.underlying40
 have hu53 := Tryd.underlying53
 have HR0_1 := Aside0.mk hr0_1
 have HC0_1 := Aside0.mk hc0_1
 clear hr0_1 hc0_1
 have HR0_3 := Aside0.mk hr0_3
 have HC0_3 := Aside0.mk hc0_3
 clear hr0_3 hc0_3
 have HR0_4 := Aside0.mk hr0_4
 have HC0_4 := Aside0.mk hc0_4
 clear hr0_4 hc0_4
 have HR0_5 := Aside0.mk hr0_5
 have HC0_5 := Aside0.mk hc0_5
 clear hr0_5 hc0_5
 have HB := Aside0.mk (Below.refl w.heap.size w)
 have H : ((some (([(⟨#[102, 117, 110, 99]⟩ : ByteArray), a0_0] : List ByteArray) : List ByteArray)).bind fun y156 => (if y156.length + l0_1.length < 8796093022208 then ((some (y156 ++ l0_1 : List ByteArray)).bind fun y159 => (if y159.length < 8796093022208 then ((some (y159 ++ [(⟨#[45, 62]⟩ : ByteArray)] : List ByteArray)).bind fun y162 => (if a0_2.toList = ([] : List UInt8) then (ir_function.j0 k y162 a0_0 l0_1 a0_2 l0_3 l0_4 l0_5) else (if y162.length < 8796093022208 then (ir_function.j0 k (y162 ++ [a0_2]) a0_0 l0_1 a0_2 l0_3 l0_4 l0_5) else (none)))) else (none))) else (none))) = some r := h
 clear h
 obtain ⟨y156, hy156⟩ : ∃ y_ : List ByteArray, y_ = (([(⟨#[102, 117, 110, 99]⟩ : ByteArray), a0_0] : List ByteArray)) := ⟨_, rfl⟩
 replace H : (if y156.length + l0_1.length < 8796093022208 then ((some (y156 ++ l0_1 : List ByteArray)).bind fun y159 => (if y159.length < 8796093022208 then ((some (y159 ++ [(⟨#[45, 62]⟩ : ByteArray)] : List ByteArray)).bind fun y162 => (if a0_2.toList = ([] : List UInt8) then (ir_function.j0 k y162 a0_0 l0_1 a0_2 l0_3 l0_4 l0_5) else (if y162.length < 8796093022208 then (ir_function.j0 k (y162 ++ [a0_2]) a0_0 l0_1 a0_2 l0_3 l0_4 l0_5) else (none)))) else (none))) else (none)) = some r := by first | (rw [hy156]; with_reducible exact H) | (have H2_ := (Option.bind_some _ _).symm.trans H; rw [hy156]; with_reducible exact H2_) | (have H2_ := (Option.bind_some _ _).symm.trans H; with_reducible exact H2_) | with_reducible exact H | (rw [hy156]; exact H) | exact H
 have Ny156 := Aside0.mk hy156
 clear hy156
 by_cases c2 : y156.length + l0_1.length < 8796093022208
 ·rw [if_pos c2] at H
  have LMc2 := Aside0.mk c2
  clear c2
  obtain ⟨y159, hy159⟩ : ∃ y_ : List ByteArray, y_ = (y156 ++ l0_1) := ⟨_, rfl⟩
  replace H : (if y159.length < 8796093022208 then ((some (y159 ++ [(⟨#[45, 62]⟩ : ByteArray)] : List ByteArray)).bind fun y162 => (if a0_2.toList = ([] : List UInt8) then (ir_function.j0 k y162 a0_0 l0_1 a0_2 l0_3 l0_4 l0_5) else (if y162.length < 8796093022208 then (ir_function.j0 k (y162 ++ [a0_2]) a0_0 l0_1 a0_2 l0_3 l0_4 l0_5) else (none)))) else (none)) = some r := by first | (rw [hy159]; with_reducible exact H) | (have H2_ := (Option.bind_some _ _).symm.trans H; rw [hy159]; with_reducible exact H2_) | (have H2_ := (Option.bind_some _ _).symm.trans H; with_reducible exact H2_) | with_reducible exact H | (rw [hy159]; exact H) | exact H
  have Ny159 := Aside0.mk hy159
  clear hy159
  by_cases c3 : y159.length < 8796093022208
  ·rw [if_pos c3] at H
   have LMc3 := Aside0.mk c3
   clear c3
   obtain ⟨y162, hy162⟩ : ∃ y_ : List ByteArray, y_ = (y159 ++ [(⟨#[45, 62]⟩ : ByteArray)]) := ⟨_, rfl⟩
   replace H : (if a0_2.toList = ([] : List UInt8) then (ir_function.j0 k y162 a0_0 l0_1 a0_2 l0_3 l0_4 l0_5) else (if y162.length < 8796093022208 then (ir_function.j0 k (y162 ++ [a0_2]) a0_0 l0_1 a0_2 l0_3 l0_4 l0_5) else (none))) = some r := by first | (rw [hy162]; with_reducible exact H) | (have H2_ := (Option.bind_some _ _).symm.trans H; rw [hy162]; with_reducible exact H2_) | (have H2_ := (Option.bind_some _ _).symm.trans H; with_reducible exact H2_) | with_reducible exact H | (rw [hy162]; exact H) | exact H
   have Ny162 := Aside0.mk hy162
   clear hy162
   have HC4 := Aside0.mk H
   clear H
   go_enter Tryd.func30, Tryd.ntmps30
   go_upto_if 19 with (first | ((with_reducible refine gate_dst (N := 1) rfl ?_); refine box_event ?hg (N := 1) ?hd (cs := #[.string a0_0, .slice A0_1 l0_1.length c0_1, .string a0_2, .slice A0_3 l0_3.length c0_3, .slice A0_4 l0_4.length c0_4, .slice A0_5 l0_5.length c0_5]) (t := 40) ?hr ?_; (case hd => rfl); (case hg => rfl); (case hr => first | (go_simp; done) | (go_simp; rfl)); intro gb155 hg w5 hbox hb; have n0_ := Aside0.mk (below_step (bq51) hb); have n1_ := Aside0.mk (hbox); have n2_ := Aside0.mk ((bq35 : w.heap.size ≤ gb155)); have n3_ := Aside0.mk ((bq35 : w.heap.size ≤ gb155)); clear HB; have HB := n0_; have BK155 := n1_; have GW155 := n2_; have GE155 := n3_; clear n0_ n1_ n2_ n3_ hb hbox hg; obtain ⟨hcz6_0, hcz6_1, hcz6_2, hcz6_3, hcz6_4, hcz6_5, hfz6_0, hfz6_1, hfz6_2, hfz6_3, hfz6_4, hfz6_5⟩ := bk6 BK155.out) | ((with_reducible refine gate_dst (N := 11) rfl ?_); refine Kd.R_lit Kd.string _ 9 ?hg (N := 11) ?hd (xs := ([(⟨#[102, 117, 110, 99]⟩ : ByteArray), a0_0] : List ByteArray)) (inner := [.string (⟨#[102, 117, 110, 99]⟩ : ByteArray), .string a0_0]) (ok := fun _ => True) (okp := fun _ => True) ?hr ?hp (fun _ hk => hk) trivial (Below.refl _ _) (Nat.le_refl _) (by simp) ?_; (case hd => rfl); (case hg => rfl); (case hr => first | (go_simp; done) | (go_simp; rfl)); (case hp => exact (Reps.one (show Kd.M Kd.string _ _ _ (⟨#[102, 117, 110, 99]⟩ : ByteArray) [.string (⟨#[102, 117, 110, 99]⟩ : ByteArray)] from rfl) (Reps.one (show Kd.M Kd.string _ _ _ a0_0 [.string a0_0] from rfl) (Reps.none _ _)))); intro v157 w7 ho8 hb hg_ hnew_; clear hg_ hnew_; (first | rw [← Ny156.out] at ho8 | (simp only [Int.reduceToNat] at ho8; rw [← Ny156.out] at ho8)); have n0_ := Aside0.mk (Kd.R_lower ho8 (below_size (bq38))); have n1_ := Aside0.mk (blkB BK155.out hb); have n2_ := Aside0.mk (below_step (bq38) hb); clear BK155 HB; have HO158 := n0_; have BK155 := n1_; have HB := n2_; clear n0_ n1_ n2_ hb ho8; obtain ⟨hcz9_0, hcz9_1, hcz9_2, hcz9_3, hcz9_4, hcz9_5, hfz9_0, hfz9_1, hfz9_2, hfz9_3, hfz9_4, hfz9_5⟩ := bk6 BK155.out) | ((with_reducible refine gate_builtin (b := .append) (xs := #[.tmp 11, .tmp 13]) rfl ?_); at_builtin; refine Kd.R_append_rows Kd.string (w0 := w) w.heap.size rfl (.tmp 11) (.tmp 13) 31 9 (.string ⟨#[]⟩) 16 rfl Tryd.underlying31 info9 rfl (by decide) (by omega) v157 y156 l0_1 _ _ _ (fun _ => True) (fun _ => False) rfl rfl ?aO ?aR (fun _ _ h => h) (fun _ h => h.elim) ?aF ?aB ?aS ?aL ?_; (case aR => repeat (first | exact (Kd.C_below HR0_1.out HB.out) | (with_reducible refine Kd.C_alloc ?_ _) | (with_reducible refine Kd.C_drewN ?_ _) | (with_reducible refine Kd.C_drew ?_))); (case aB => exact (bq38)); (case aF => exact (fun _ _ => trivial)); (case aO => exact (by (with_reducible repeat (first | apply Kd.R_alloc | apply Kd.R_drewN | apply Kd.R_drew)); exact HO158.out)); (case aS => exact (below_size (bq38))); (case aL => have := LMc2.out; omega); intro v160 w10 ho hb hg hat; rw [← Ny159.out] at ho; have n0_ := Aside0.mk (blkG BK155.out hg (Kd.R_ne HO158.out BK155.out (by decide))); have n1_ := Aside0.mk (hb); have n2_ := Aside0.mk (ho); clear BK155 HB HO158; have BK155 := n0_; have HB := n1_; have HO161 := n2_; clear n0_ n1_ n2_ ho hb hg hat) | ((with_reducible refine gate_builtin (b := .append) (xs := #[.tmp 14, .tmp 15]) rfl ?_); at_builtin; refine Kd.R_append Kd.string (w0 := w) w.heap.size rfl (.tmp 14) (.tmp 15) 31 9 (.string ⟨#[]⟩) 16 rfl Tryd.underlying31 info9 rfl (by decide) (by omega) v160 y159 (⟨#[45, 62]⟩ : ByteArray) [.string (⟨#[45, 62]⟩ : ByteArray)] (fun _ => True) (fun _ => False) rfl rfl ?aP (fun _ hk => hk.elim) ?aF ?aO ?aB ?aS ?aL ?_; (case aP => exact rfl); (case aB => exact (bq38)); (case aF => exact (fun _ _ => trivial)); (case aO => exact (by (with_reducible repeat (first | apply Kd.R_alloc | apply Kd.R_drewN | apply Kd.R_drew)); exact HO161.out)); (case aS => exact (below_size (bq38))); (case aL => have := LMc3.out; omega); intro v163 w11 ho hb hg hat; rw [← Ny162.out] at ho; have n0_ := Aside0.mk (blkG BK155.out hg (Kd.R_ne HO161.out BK155.out (by decide))); have n1_ := Aside0.mk (hb); have n2_ := Aside0.mk (ho); clear BK155 HB HO161; have BK155 := n0_; have HB := n1_; have HO164 := n2_; clear n0_ n1_ n2_ ho hb hg hat; obtain ⟨hcz12_0, hcz12_1, hcz12_2, hcz12_3, hcz12_4, hcz12_5, hfz12_0, hfz12_1, hfz12_2, hfz12_3, hfz12_4, hfz12_5⟩ := bk6 BK155.out))
   (try simp only [Act.put, List.setIfInBounds_toArray, List.set_cons_zero, List.set_cons_succ])
   go_cut [3] (fun v3 wc => ∃ (kq : Nat) (x3_3 : List ByteArray), Aside0 (ir_function.j0 kq x3_3 a0_0 l0_1 a0_2 l0_3 l0_4 l0_5 = some r) ∧ Aside0 (kq ≤ k) ∧ Aside0 (Kd.R Kd.string 9 wc w.heap.size (fun _ => True) v3 x3_3) ∧ Aside0 (wc.heap[gb155]? = some (.cells #[.string a0_0, (.slice A0_1 l0_1.length c0_1), .string a0_2, (.slice A0_3 l0_3.length c0_3), (.slice A0_4 l0_4.length c0_4), (.slice A0_5 l0_5.length c0_5)] 40 (0, 0))) ∧ Aside0 (Below w.heap.size w wc))
   case first =>
    have H := HC4.out
    clear HC4
    by_cases c13 : a0_2.toList = ([] : List UInt8)
    ·rw [if_pos c13] at H
     have c13b0 : (a0_2.toList == ([] : List UInt8)) = true := beq_iff_eq.mpr c13
     try have c13b4 : (!(a0_2).toList.isEmpty) = false := by simpa using c13b0
     have c13b1 : (a0_2.toList != ([] : List UInt8)) = false := bne_eq_false_iff_eq.mpr c13
     clear c13
     (first | rw [c13b0] | rw [c13b1] | rw [c13b4] | (simp only [i64_w, i32_w]; rw [c13b0]) | skip)
     have H' := Aside0.mk H
     clear H
     go_wp2
     go_meet
     case rel => exact ⟨_, (y162), H', ⟨by first | omega | exact Nat.le_refl _⟩, ⟨by (with_reducible repeat (first | apply Kd.R_alloc | apply Kd.R_drewN | apply Kd.R_drew)); exact HO164.out⟩, ⟨by (with_reducible repeat (first | refine blk_drewN ?_ _ | refine blk_drew ?_ | refine blk_alloc ?_ _)); exact BK155.out⟩, ⟨bq38⟩⟩
    ·rw [if_neg c13] at H
     have c13b0 : (a0_2.toList == ([] : List UInt8)) = false := beq_eq_false_iff_ne.mpr c13
     try have c13b4 : (!(a0_2).toList.isEmpty) = true := by simpa using c13b0
     have c13b1 : (a0_2.toList != ([] : List UInt8)) = true := bne_iff_ne.mpr c13
     (first | rw [c13b0] | rw [c13b1] | rw [c13b4] | (simp only [i64_w, i32_w]; rw [c13b0]) | skip)
     by_cases c14 : y162.length < 8796093022208
     ·rw [if_pos c14] at H
      have LMc14 := Aside0.mk c14
      clear c14
      obtain ⟨y165, hy165⟩ : ∃ y_ : List ByteArray, y_ = (y162 ++ [a0_2]) := ⟨_, rfl⟩
      replace H : (ir_function.j0 k y165 a0_0 l0_1 a0_2 l0_3 l0_4 l0_5) = some r := by first | (rw [hy165]; with_reducible exact H) | (have H2_ := (Option.bind_some _ _).symm.trans H; rw [hy165]; with_reducible exact H2_) | (have H2_ := (Option.bind_some _ _).symm.trans H; with_reducible exact H2_) | with_reducible exact H | (rw [hy165]; exact H) | exact H
      have Ny165 := Aside0.mk hy165
      clear hy165
      have H' := Aside0.mk H
      clear H
      obtain ⟨hcz15_0, hcz15_1, hcz15_2, hcz15_3, hcz15_4, hcz15_5, hfz15_0, hfz15_1, hfz15_2, hfz15_3, hfz15_4, hfz15_5⟩ := bk6 BK155.out
      go_wp2_with (first | ((with_reducible refine gate_builtin (b := .append) (xs := #[.tmp 20, .tmp 23]) rfl ?_); at_builtin; refine Kd.R_append Kd.string (w0 := w) w.heap.size rfl (.tmp 20) (.tmp 23) 31 9 (.string ⟨#[]⟩) 16 rfl Tryd.underlying31 info9 rfl (by decide) (by omega) v163 y162 a0_2 [.string a0_2] (fun _ => True) (fun _ => False) rfl rfl ?aP (fun _ hk => hk.elim) ?aF ?aO ?aB ?aS ?aL ?_; (case aP => exact rfl); (case aB => exact (bq38)); (case aF => exact (fun _ _ => trivial)); (case aO => exact (by (with_reducible repeat (first | apply Kd.R_alloc | apply Kd.R_drewN | apply Kd.R_drew)); exact HO164.out)); (case aS => exact (below_size (bq38))); (case aL => have := LMc14.out; omega); intro v166 w16 ho hb hg hat; rw [← Ny165.out] at ho; have n0_ := Aside0.mk (blkG BK155.out hg (Kd.R_ne HO164.out BK155.out (by decide))); have n1_ := Aside0.mk (hb); have n2_ := Aside0.mk (ho); clear BK155 HB HO164; have BK155 := n0_; have HB := n1_; have HO167 := n2_; clear n0_ n1_ n2_ ho hb hg hat))
      go_meet
      case rel => exact ⟨_, (y165), H', ⟨by first | omega | exact Nat.le_refl _⟩, ⟨by (with_reducible repeat (first | apply Kd.R_alloc | apply Kd.R_drewN | apply Kd.R_drew)); exact HO167.out⟩, ⟨by (with_reducible repeat (first | refine blk_drewN ?_ _ | refine blk_drew ?_ | refine blk_alloc ?_ _)); exact BK155.out⟩, ⟨bq38⟩⟩
     ·rw [if_neg c14] at H
      exact absurd H (by simp)
   case rest =>
    clear HC4 hcz12_0 hcz12_1 hcz12_2 hcz12_3 hcz12_4 hcz12_5 hcz6_0 hcz6_1 hcz6_2 hcz6_3 hcz6_4 hcz6_5 hcz9_0 hcz9_1 hcz9_2 hcz9_3 hcz9_4 hcz9_5 hfz12_0 hfz12_1 hfz12_2 hfz12_3 hfz12_4 hfz12_5 hfz6_0 hfz6_1 hfz6_2 hfz6_3 hfz6_4 hfz6_5 hfz9_0 hfz9_1 hfz9_2 hfz9_3 hfz9_4 hfz9_5
    obtain ⟨kq, x3_3, HA, HJ3, HO_3, BK155, HB⟩ := hcut
    cases kq with
    | zero => exact absurd HA.out (by simp [ir_function.j0])
    | succ kj3 =>
     have H := HA.out
     clear HA
     simp only [ir_function.j0] at H
     replace H := Option.bind_eq_some_iff.mp H
     obtain ⟨t168, A170, H⟩ := H
     (try dsimp only at H)
     have A17 := Aside0.mk A170
     clear A170
     obtain ⟨y169, hy169⟩ : ∃ y_ : List ByteArray, y_ = (([t168] : List ByteArray)) := ⟨_, rfl⟩
     replace H : (if (l0_3.length : Int) > 0 then ((some (([(⟨#[115, 108, 111, 116, 115]⟩ : ByteArray)] : List ByteArray) : List ByteArray)).bind fun y172 => (if y172.length + l0_3.length < 8796093022208 then ((strings_Join.f (y172 ++ l0_3) (⟨#[32]⟩ : ByteArray)).bind fun t178 => (if y169.length < 8796093022208 then (ir_function.j1 kj3 (y169 ++ [t178]) a0_0 l0_1 a0_2 l0_3 l0_4 l0_5) else (none))) else (none))) else (ir_function.j1 kj3 y169 a0_0 l0_1 a0_2 l0_3 l0_4 l0_5)) = some r := by first | (rw [hy169]; with_reducible exact H) | (have H2_ := (Option.bind_some _ _).symm.trans H; rw [hy169]; with_reducible exact H2_) | (have H2_ := (Option.bind_some _ _).symm.trans H; with_reducible exact H2_) | with_reducible exact H | (rw [hy169]; exact H) | exact H
     have Ny169 := Aside0.mk hy169
     clear hy169
     have HC18 := Aside0.mk H
     clear H
     obtain ⟨Ao19, co19, eo19⟩ := Kd.R_slice HO_3.out
     subst eo19
     go_upto_if 31 with (first | ((with_reducible refine gate_callee (f := 29) rfl ?_); refine goesL_ (some 26) rfl rfl Tryd.func29 (by kernel_rfl) rfl #[.slice Ao19 x3_3.length co19, .string (⟨#[32]⟩ : ByteArray)] rfl (bq48) ?_; (with_reducible refine (strings_Join.calls _ _ x3_3 (⟨#[32]⟩ : ByteArray) t168 _ ?side1 ?side2 A17.out).mono ?_); (case side1 => repeat (first | exact (Kd.R_reads' HO_3.out).2.2 | (with_reducible refine Kd.C_alloc ?_ _) | (with_reducible refine Kd.C_drewN ?_ _) | (with_reducible refine Kd.C_drew ?_))); (case side2 => exact (Kd.R_reads' HO_3.out).2.1); rintro e w20 ⟨rfl, hb⟩; refine ⟨_, rfl, ?_⟩; have n0_ := Aside0.mk (Kd.R_below (bq72) hb); have n1_ := Aside0.mk (blkB BK155.out hb); have n2_ := Aside0.mk (below_step (bq38) hb); clear HO_3 BK155 HB; have HO_3 := n0_; have BK155 := n1_; have HB := n2_; clear n0_ n1_ n2_ hb) | ((with_reducible refine gate_dst (N := 27) rfl ?_); refine Kd.R_lit Kd.string _ 9 ?hg (N := 27) ?hd (xs := ([t168] : List ByteArray)) (inner := [.string t168]) (ok := fun _ => True) (okp := fun _ => True) ?hr ?hp (fun _ hk => hk) trivial (Below.refl _ _) (Nat.le_refl _) (by simp) ?_; (case hd => rfl); (case hg => rfl); (case hr => first | (go_simp; done) | (go_simp; rfl)); (case hp => exact (Reps.one (show Kd.M Kd.string _ _ _ t168 [.string t168] from rfl) (Reps.none _ _))); intro v170 w21 ho22 hb hg_ hnew_; clear hg_ hnew_; (first | rw [← Ny169.out] at ho22 | (simp only [Int.reduceToNat] at ho22; rw [← Ny169.out] at ho22)); have n0_ := Aside0.mk (Kd.R_elder' (bq72) (Kd.R_base ho22) hb); have n1_ := Aside0.mk (Kd.R_lower (Kd.R_new' ho22 (Kd.R_lt (bq72))) (below_size (bq38))); have n2_ := Aside0.mk (blkB BK155.out hb); have n3_ := Aside0.mk (below_step (bq38) hb); clear HO_3 BK155 HB; have HO_3 := n0_; have HO171 := n1_; have BK155 := n2_; have HB := n3_; clear n0_ n1_ n2_ n3_ hb ho22; obtain ⟨hcz23_0, hcz23_1, hcz23_2, hcz23_3, hcz23_4, hcz23_5, hfz23_0, hfz23_1, hfz23_2, hfz23_3, hfz23_4, hfz23_5⟩ := bk6 BK155.out))
     (try simp only [Act.put, List.setIfInBounds_toArray, List.set_cons_zero, List.set_cons_succ])
     go_cut [4] (fun v4 wc => ∃ (kq : Nat) (x4_17 : List ByteArray), Aside0 (ir_function.j1 kq x4_17 a0_0 l0_1 a0_2 l0_3 l0_4 l0_5 = some r) ∧ Aside0 (kq ≤ kj3) ∧ Aside0 (Kd.R Kd.string 9 wc w.heap.size (fun _ => True) v4 x4_17) ∧ Aside0 (wc.heap[gb155]? = some (.cells #[.string a0_0, (.slice A0_1 l0_1.length c0_1), .string a0_2, (.slice A0_3 l0_3.length c0_3), (.slice A0_4 l0_4.length c0_4), (.slice A0_5 l0_5.length c0_5)] 40 (0, 0))) ∧ Aside0 (Below w.heap.size w wc))
     case first =>
      have H := HC18.out
      clear HC18
      by_cases c24 : (l0_3.length : Int) > 0
      ·rw [if_pos c24] at H
       have c24b0 := decide_eq_true c24
       have c24b1 : decide (0 < l0_3.length) = true := decide_eq_true (by omega)
       clear c24
       (first | rw [c24b0] | rw [c24b1] | rw [c24b4] | (simp only [i64_w, i32_w]; rw [c24b0]) | skip)
       obtain ⟨y172, hy172⟩ : ∃ y_ : List ByteArray, y_ = (([(⟨#[115, 108, 111, 116, 115]⟩ : ByteArray)] : List ByteArray)) := ⟨_, rfl⟩
       replace H : (if y172.length + l0_3.length < 8796093022208 then ((strings_Join.f (y172 ++ l0_3) (⟨#[32]⟩ : ByteArray)).bind fun t178 => (if y169.length < 8796093022208 then (ir_function.j1 kj3 (y169 ++ [t178]) a0_0 l0_1 a0_2 l0_3 l0_4 l0_5) else (none))) else (none)) = some r := by first | (rw [hy172]; with_reducible exact H) | (have H2_ := (Option.bind_some _ _).symm.trans H; rw [hy172]; with_reducible exact H2_) | (have H2_ := (Option.bind_some _ _).symm.trans H; with_reducible exact H2_) | with_reducible exact H | (rw [hy172]; exact H) | exact H
       have Ny172 := Aside0.mk hy172
       clear hy172
       by_cases c25 : y172.length + l0_3.length < 8796093022208
       ·rw [if_pos c25] at H
        have LMc25 := Aside0.mk c25
        clear c25
        obtain ⟨y175, hy175⟩ : ∃ y_ : List ByteArray, y_ = (y172 ++ l0_3) := ⟨_, rfl⟩
        replace H : ((strings_Join.f y175 (⟨#[32]⟩ : ByteArray)).bind fun t178 => (if y169.length < 8796093022208 then (ir_function.j1 kj3 (y169 ++ [t178]) a0_0 l0_1 a0_2 l0_3 l0_4 l0_5) else (none))) = some r := by first | (rw [hy175]; with_reducible exact H) | (have H2_ := (Option.bind_some _ _).symm.trans H; rw [hy175]; with_reducible exact H2_) | (have H2_ := (Option.bind_some _ _).symm.trans H; with_reducible exact H2_) | with_reducible exact H | (rw [hy175]; exact H) | exact H
        have Ny175 := Aside0.mk hy175
        clear hy175
        replace H := Option.bind_eq_some_iff.mp H
        obtain ⟨t178, A260, H⟩ := H
        (try dsimp only at H)
        have A26 := Aside0.mk A260
        clear A260
        by_cases c27 : y169.length < 8796093022208
        ·rw [if_pos c27] at H
         have LMc27 := Aside0.mk c27
         clear c27
         obtain ⟨y179, hy179⟩ : ∃ y_ : List ByteArray, y_ = (y169 ++ [t178]) := ⟨_, rfl⟩
         replace H : (ir_function.j1 kj3 y179 a0_0 l0_1 a0_2 l0_3 l0_4 l0_5) = some r := by first | (rw [hy179]; with_reducible exact H) | (have H2_ := (Option.bind_some _ _).symm.trans H; rw [hy179]; with_reducible exact H2_) | (have H2_ := (Option.bind_some _ _).symm.trans H; with_reducible exact H2_) | with_reducible exact H | (rw [hy179]; exact H) | exact H
         have Ny179 := Aside0.mk hy179
         clear hy179
         have H' := Aside0.mk H
         clear H
         go_wp2_with (first | ((with_reducible refine gate_dst (N := 33) rfl ?_); refine Kd.R_lit Kd.string _ 9 ?hg (N := 33) ?hd (xs := ([(⟨#[115, 108, 111, 116, 115]⟩ : ByteArray)] : List ByteArray)) (inner := [.string (⟨#[115, 108, 111, 116, 115]⟩ : ByteArray)]) (ok := fun _ => True) (okp := fun _ => True) ?hr ?hp (fun _ hk => hk) trivial (Below.refl _ _) (Nat.le_refl _) (by simp) ?_; (case hd => rfl); (case hg => rfl); (case hr => first | (go_simp; done) | (go_simp; rfl)); (case hp => exact (Reps.one (show Kd.M Kd.string _ _ _ (⟨#[115, 108, 111, 116, 115]⟩ : ByteArray) [.string (⟨#[115, 108, 111, 116, 115]⟩ : ByteArray)] from rfl) (Reps.none _ _))); intro v173 w28 ho29 hb hg_ hnew_; clear hg_ hnew_; (first | rw [← Ny172.out] at ho29 | (simp only [Int.reduceToNat] at ho29; rw [← Ny172.out] at ho29)); have n0_ := Aside0.mk (Kd.R_elder' (bq72) (Kd.R_base ho29) hb); have n1_ := Aside0.mk (Kd.R_elder' (bq65) (Kd.R_base ho29) hb); have n2_ := Aside0.mk (Kd.R_lower (Kd.R_new' (Kd.R_new' ho29 (Kd.R_lt (bq72))) (Kd.R_lt (bq65))) (below_size (bq38))); have n3_ := Aside0.mk (blkB BK155.out hb); have n4_ := Aside0.mk (below_step (bq38) hb); clear HO_3 HO171 BK155 HB; have HO_3 := n0_; have HO171 := n1_; have HO174 := n2_; have BK155 := n3_; have HB := n4_; clear n0_ n1_ n2_ n3_ n4_ hb ho29; obtain ⟨hcz30_0, hcz30_1, hcz30_2, hcz30_3, hcz30_4, hcz30_5, hfz30_0, hfz30_1, hfz30_2, hfz30_3, hfz30_4, hfz30_5⟩ := bk6 BK155.out) | ((with_reducible refine gate_builtin (b := .append) (xs := #[.tmp 33, .tmp 35]) rfl ?_); at_builtin; refine Kd.R_append_rows Kd.string (w0 := w) w.heap.size rfl (.tmp 33) (.tmp 35) 31 9 (.string ⟨#[]⟩) 16 rfl Tryd.underlying31 info9 rfl (by decide) (by omega) v173 y172 l0_3 _ _ _ (fun k_ => some k_ ≠ (.slice Ao19 x3_3.length co19 : Value).ownBlock ∧ some k_ ≠ (v170 : Value).ownBlock) (fun _ => False) rfl rfl ?aO ?aR (fun _ _ h => h) (fun _ h => h.elim) ?aF ?aB ?aS ?aL ?_; (case aR => repeat (first | exact (Kd.C_below HR0_3.out HB.out) | (with_reducible refine Kd.C_alloc ?_ _) | (with_reducible refine Kd.C_drewN ?_ _) | (with_reducible refine Kd.C_drew ?_))); (case aB => exact (bq38)); (case aF => exact (fun k_ hk => ⟨Kd.fresh' (Kd.R_lt (bq72)) k_ hk, Kd.fresh' (Kd.R_lt (bq65)) k_ hk⟩)); (case aO => exact (by (with_reducible repeat (first | apply Kd.R_alloc | apply Kd.R_drewN | apply Kd.R_drew)); exact Kd.R_mono HO174.out (fun _ hk => ⟨hk.1.2, hk.2⟩))); (case aS => exact (below_size (bq38))); (case aL => have := LMc25.out; omega); intro v176 w31 ho hb hg hat; rw [← Ny175.out] at ho; have n0_ := Aside0.mk (Kd.R_after (ok := (fun k_ => some k_ ≠ (v170 : Value).ownBlock)) (by (with_reducible repeat (first | apply Kd.R_alloc | apply Kd.R_drewN | apply Kd.R_drew)); exact Kd.R_mono HO_3.out (fun _ hk => ⟨hk.1.2, hk.2⟩)) hg hat); have n1_ := Aside0.mk (blkG BK155.out hg (Kd.R_ne HO174.out BK155.out (by decide))); have n2_ := Aside0.mk (Kd.R_after (ok := (fun k_ => some k_ ≠ (.slice Ao19 x3_3.length co19 : Value).ownBlock)) (by (with_reducible repeat (first | apply Kd.R_alloc | apply Kd.R_drewN | apply Kd.R_drew)); exact Kd.R_mono HO171.out (fun _ hk => ⟨hk.1.2, hk.2⟩)) hg hat); have n3_ := Aside0.mk (hb); have n4_ := Aside0.mk (ho); clear HO_3 BK155 HO171 HB HO174; have HO_3 := n0_; have BK155 := n1_; have HO171 := n2_; have HB := n3_; have HO177 := n4_; clear n0_ n1_ n2_ n3_ n4_ ho hb hg hat; obtain ⟨Ao32, co32, eo32⟩ := Kd.R_slice HO177.out; subst eo32) | ((with_reducible refine gate_callee (f := 29) rfl ?_); refine goesL_ (some 37) rfl rfl Tryd.func29 (by kernel_rfl) rfl #[.slice Ao32 y175.length co32, .string (⟨#[32]⟩ : ByteArray)] rfl (bq48) ?_; (with_reducible refine (strings_Join.calls _ _ y175 (⟨#[32]⟩ : ByteArray) t178 _ ?side1 ?side2 A26.out).mono ?_); (case side1 => repeat (first | exact (Kd.R_reads' HO177.out).2.2 | (with_reducible refine Kd.C_alloc ?_ _) | (with_reducible refine Kd.C_drewN ?_ _) | (with_reducible refine Kd.C_drew ?_))); (case side2 => exact (Kd.R_reads' HO177.out).2.1); rintro e w33 ⟨rfl, hb⟩; refine ⟨_, rfl, ?_⟩; have n0_ := Aside0.mk (Kd.R_below (bq72) hb); have n1_ := Aside0.mk (Kd.R_below (bq65) hb); have n2_ := Aside0.mk (Kd.R_below (bq66) hb); have n3_ := Aside0.mk (blkB BK155.out hb); have n4_ := Aside0.mk (below_step (bq38) hb); clear HO_3 HO171 HO177 BK155 HB; have HO_3 := n0_; have HO171 := n1_; have HO177 := n2_; have BK155 := n3_; have HB := n4_; clear n0_ n1_ n2_ n3_ n4_ hb) | ((with_reducible refine gate_builtin (b := .append) (xs := #[.tmp 32, .tmp 38]) rfl ?_); at_builtin; refine Kd.R_append Kd.string (w0 := w) w.heap.size rfl (.tmp 32) (.tmp 38) 31 9 (.string ⟨#[]⟩) 16 rfl Tryd.underlying31 info9 rfl (by decide) (by omega) v170 y169 t178 [.string t178] (fun k_ => some k_ ≠ (.slice Ao19 x3_3.length co19 : Value).ownBlock ∧ some k_ ≠ (.slice Ao32 y175.length co32 : Value).ownBlock) (fun _ => False) rfl rfl ?aP (fun _ hk => hk.elim) ?aF ?aO ?aB ?aS ?aL ?_; (case aP => exact rfl); (case aB => exact (bq38)); (case aF => exact (fun k_ hk => ⟨Kd.fresh' (Kd.R_lt (bq72)) k_ hk, Kd.fresh' (Kd.R_lt (bq66)) k_ hk⟩)); (case aO => exact (bq65)); (case aS => exact (below_size (bq38))); (case aL => have := LMc27.out; omega); intro v180 w34 ho hb hg hat; rw [← Ny179.out] at ho; have n0_ := Aside0.mk (Kd.R_after (ok := (fun k_ => some k_ ≠ (.slice Ao32 y175.length co32 : Value).ownBlock)) (by (with_reducible repeat (first | apply Kd.R_alloc | apply Kd.R_drewN | apply Kd.R_drew)); exact Kd.R_mono HO_3.out (fun _ hk => ⟨hk.2, hk.1⟩)) hg hat); have n1_ := Aside0.mk (blkG BK155.out hg (Kd.R_ne HO171.out BK155.out (by decide))); have n2_ := Aside0.mk (Kd.R_after (ok := (fun k_ => some k_ ≠ (.slice Ao19 x3_3.length co19 : Value).ownBlock)) (bq66) hg hat); have n3_ := Aside0.mk (hb); have n4_ := Aside0.mk (ho); clear HO_3 BK155 HO177 HB HO171; have HO_3 := n0_; have BK155 := n1_; have HO177 := n2_; have HB := n3_; have HO181 := n4_; clear n0_ n1_ n2_ n3_ n4_ ho hb hg hat))
         go_meet
         case rel => exact ⟨_, (y179), H', ⟨by have := HJ3.out; first | omega | exact Nat.le_refl _⟩, ⟨by (with_reducible repeat (first | apply Kd.R_alloc | apply Kd.R_drewN | apply Kd.R_drew)); exact Kd.R_mono HO181.out (fun _ hk => trivial)⟩, ⟨by (with_reducible repeat (first | refine blk_drewN ?_ _ | refine blk_drew ?_ | refine blk_alloc ?_ _)); exact BK155.out⟩, ⟨bq38⟩⟩
        ·rw [if_neg c27] at H
         exact absurd H (by simp)
       ·rw [if_neg c25] at H
        exact absurd H (by simp)
      ·rw [if_neg c24] at H
       have c24b0 := decide_eq_false c24
       have c24b1 : decide (0 < l0_3.length) = false := decide_eq_false (by omega)
       clear c24
       (first | rw [c24b0] | rw [c24b1] | rw [c24b4] | (simp only [i64_w, i32_w]; rw [c24b0]) | skip)
       have H' := Aside0.mk H
       clear H
       go_wp2
       go_meet
       case rel => exact ⟨_, (y169), H', ⟨by have := HJ3.out; first | omega | exact Nat.le_refl _⟩, ⟨by (with_reducible repeat (first | apply Kd.R_alloc | apply Kd.R_drewN | apply Kd.R_drew)); exact Kd.R_mono HO171.out (fun _ hk => trivial)⟩, ⟨by (with_reducible repeat (first | refine blk_drewN ?_ _ | refine blk_drew ?_ | refine blk_alloc ?_ _)); exact BK155.out⟩, ⟨bq38⟩⟩
     case rest =>
      clear HC18 hcz23_0 hcz23_1 hcz23_2 hcz23_3 hcz23_4 hcz23_5 hfz23_0 hfz23_1 hfz23_2 hfz23_3 hfz23_4 hfz23_5
      obtain ⟨kq, x4_17, HA, HJ17, HO_4, BK155, HB⟩ := hcut
      cases kq with
      | zero => exact absurd HA.out (by simp [ir_function.j1])
      | succ kj17 =>
       have H := HA.out
       clear HA
       simp only [ir_function.j1] at H
       have H' := Aside0.mk H
       clear H
       obtain ⟨hcz35_0, hcz35_1, hcz35_2, hcz35_3, hcz35_4, hcz35_5, hfz35_0, hfz35_1, hfz35_2, hfz35_3, hfz35_4, hfz35_5⟩ := bk6 BK155.out
       go_wp2
       go_loopg [4, 43] kj17 (fun kq v4 v43 w' => ∃ (x4_3 : List ByteArray) (x43_3 : Int), v43 = .int .i64 x43_3 ∧ Aside0 (ir_function.l0 kq x4_3 l0_5 (l0_5.length : Int) x43_3 a0_0 l0_1 a0_2 l0_3 l0_4 l0_5 = some r) ∧ Aside0 (kq ≤ kj17) ∧ Aside0 (Kd.R Kd.string 9 w' w.heap.size (fun _ => True) v4 x4_3) ∧ Aside0 (w'.heap[gb155]? = some (.cells #[.string a0_0, (.slice A0_1 l0_1.length c0_1), .string a0_2, (.slice A0_3 l0_3.length c0_3), (.slice A0_4 l0_4.length c0_4), (.slice A0_5 l0_5.length c0_5)] 40 (0, 0))) ∧ Aside0 (Below w.heap.size w w'))
       case atStart => exact ⟨(x4_17), (0), (bq78), H', ⟨Nat.le_refl _⟩, ⟨bq73⟩, ⟨by (with_reducible repeat (first | refine blk_drewN ?_ _ | refine blk_drew ?_ | refine blk_alloc ?_ _)); exact BK155.out⟩, ⟨bq38⟩⟩
       case round =>
        clear H' hcz35_0 hcz35_1 hcz35_2 hcz35_3 hcz35_4 hcz35_5 hfz35_0 hfz35_1 hfz35_2 hfz35_3 hfz35_4 hfz35_5
        obtain ⟨x4_3, x43_3, rfl, HA, HK3, HO_4, BK155, HB⟩ := hrel
        cases gk with
        | zero => exact absurd HA.out (by simp [ir_function.l0])
        | succ k3 =>
         have H := HA.out
         clear HA
         simp only [ir_function.l0] at H
         by_cases c36 : x43_3 < (l0_5.length : Int)
         ·rw [if_pos c36] at H
          have c36b0 := decide_eq_true c36
          clear c36
          by_cases c37 : 0 ≤ x43_3
          ·rw [if_pos c37] at H
           have c37b0 := decide_eq_true c37
           clear c37
           by_cases c38 : x43_3 < (l0_5.length : Int)
           ·rw [if_pos c38] at H
            have c38b0 := decide_eq_true c38
            clear c38
            replace H := Option.bind_eq_some_iff.mp H
            obtain ⟨t184, A390, H⟩ := H
            (try dsimp only at H)
            have A39 := Aside0.mk A390
            clear A390
            by_cases c40 : 6 + t184.size ≤ 9223372036854775807
            ·rw [if_pos c40] at H
             have c40b0 := eq_true c40
             have c40b1 := decide_eq_true c40
             try have c40b2 : (9223372036854775807 < 6 + t184.size) = False := eq_false (Nat.not_lt.2 c40)
             by_cases c41 : x4_3.length < 8796093022208
             ·rw [if_pos c41] at H
              have LMc41 := Aside0.mk c41
              clear c41
              obtain ⟨y185, hy185⟩ : ∃ y_ : List ByteArray, y_ = (x4_3 ++ [(⟨#[98, 108, 111, 99, 107, 32]⟩ : ByteArray) ++ t184]) := ⟨_, rfl⟩
              replace H : (ir_function.l1 k3 y185 l0_5 (l0_5.length : Int) x43_3 ((rd_T53 l0_5 x43_3).f0) (((rd_T53 l0_5 x43_3).f0).length : Int) 0 a0_0 l0_1 a0_2 l0_3 l0_4 l0_5 ((rd_T53 l0_5 x43_3).f0) ((rd_T53 l0_5 x43_3).f1) ((rd_T53 l0_5 x43_3).f2) ((rd_T53 l0_5 x43_3).f3.f0) ((rd_T53 l0_5 x43_3).f3.f1)) = some r := by first | (rw [hy185]; with_reducible exact H) | (have H2_ := (Option.bind_some _ _).symm.trans H; rw [hy185]; with_reducible exact H2_) | (have H2_ := (Option.bind_some _ _).symm.trans H; with_reducible exact H2_) | with_reducible exact H | (rw [hy185]; exact H) | exact H
              have Ny185 := Aside0.mk hy185
              clear hy185
              have H' := Aside0.mk H
              clear H
              have p182 : 0 ≤ (x43_3 : Int) := of_decide_eq_true (bq77)
              have q182 : x43_3 < (l0_5.length : Int) := of_decide_eq_true (bq77)
              obtain ⟨ad182, A182_0, c182_0, e182, hx182_0, hx182_1, hx182_2, hx182_3, hx182_4, hl182_0, hi182_0⟩ := at_T53 HR0_5.out x43_3 p182 q182
              cases e182
              replace hx182_0 := (HB.out.cell (World.block_lt_of_cell? w _ hx182_0)).trans hx182_0
              replace hx182_1 := (HB.out.cell (World.block_lt_of_cell? w _ hx182_1)).trans hx182_1
              replace hx182_2 := (HB.out.cell (World.block_lt_of_cell? w _ hx182_2)).trans hx182_2
              replace hx182_3 := (HB.out.cell (World.block_lt_of_cell? w _ hx182_3)).trans hx182_3
              replace hx182_4 := (HB.out.cell (World.block_lt_of_cell? w _ hx182_4)).trans hx182_4
              have HR182_0 := Aside0.mk hi182_0
              have HC182_0 := Aside0.mk hl182_0
              clear hi182_0 hl182_0
              replace p182 := eq_true p182
              replace q182 := eq_true q182
              go_wp2_with (first | ((with_reducible refine gate_dst (N := 6) rfl ?_); refine box_event ?hg (N := 6) ?hd (cs := #[.slice none 0 0, .int .i64 0, .int .i64 0, .int .i64 0, .int .i64 0]) (t := 53) ?hr ?_; (case hd => rfl); (case hg => rfl); (case hr => first | (go_simp; done) | (go_simp; rfl)); intro gb183 hg w42 hbox hb; have n0_ := Aside0.mk (Kd.R_below (bq73) hb); have n1_ := Aside0.mk (blkB BK155.out hb); have n2_ := Aside0.mk (below_step (bq38) hb); have n3_ := Aside0.mk (hbox); have n4_ := Aside0.mk ((bq16 : w.heap.size ≤ gb183)); have n5_ := Aside0.mk ((bq16 : w.heap.size ≤ gb183)); have n6_ := Aside0.mk ((by rw [hg]; exact Nat.ne_of_lt (blkL BK155.out) : gb155 ≠ gb183)); have n7_ := Aside0.mk ((by rw [hg]; exact Nat.ne_of_gt (blkL BK155.out) : gb183 ≠ gb155)); clear HO_4 BK155 HB; have HO_4 := n0_; have BK155 := n1_; have HB := n2_; have BK183 := n3_; have GW183 := n4_; have GE183 := n5_; have NB155_183 := n6_; have NB183_155 := n7_; clear n0_ n1_ n2_ n3_ n4_ n5_ n6_ n7_ hb hbox hg; have hnb43 := NB183_155.out; have hnc43 := NB155_183.out; obtain ⟨hcz44_0, hcz44_1, hcz44_2, hcz44_3, hcz44_4, hfz44_0, hfz44_1, hfz44_2, hfz44_3, hfz44_4⟩ := bk5 BK183.out) | ((with_reducible refine gate_callee (f := 42) rfl ?_); refine goesL_ (some 50) rfl rfl Tryd.func42 (by kernel_rfl) rfl #[.int .i64 x43_3] rfl (bq48) ?_; (with_reducible refine (strconv_Itoa_42.calls x43_3 t184 _ A39.out).mono ?_); rintro e w45 ⟨rfl, hb⟩; refine ⟨_, rfl, ?_⟩; have n0_ := Aside0.mk (Kd.R_below (by (with_reducible repeat (first | apply Kd.R_alloc | apply Kd.R_drewN | apply Kd.R_drew)); exact (Kd.R_mono (Kd.R_far (p := ⟨gb183, 4, none⟩) (Kd.R_far (p := ⟨gb183, 3, none⟩) (Kd.R_far (p := ⟨gb183, 2, none⟩) (Kd.R_far (p := ⟨gb183, 1, none⟩) (Kd.R_far (p := ⟨gb183, 0, none⟩) (Kd.R_types HO_4.out BK183.out (by decide)) (fun _ hk => hk.2) (.slice A182_0 ((rd_T53 l0_5 x43_3).f0).length c182_0)) (fun _ hk => hk.2) (.int .i64 ((rd_T53 l0_5 x43_3).f1))) (fun _ hk => hk.2) (.int .i64 ((rd_T53 l0_5 x43_3).f2))) (fun _ hk => hk.2) (.int .i64 ((rd_T53 l0_5 x43_3).f3.f0))) (fun _ hk => hk.2) (.int .i64 ((rd_T53 l0_5 x43_3).f3.f1))) (fun _ h_ => h_.1))) hb); have n1_ := Aside0.mk (blk_below (g := gb155) (o := .cells #[.string a0_0, .slice A0_1 l0_1.length c0_1, .string a0_2, .slice A0_3 l0_3.length c0_3, .slice A0_4 l0_4.length c0_4, .slice (some ad182) l0_5.length c0_5] 40 (0, 0)) (by (with_reducible repeat (first | refine blk_drewN ?_ _ | refine blk_drew ?_ | refine blk_alloc ?_ _)); refine blk_far ?_ NB155_183.out _; (with_reducible repeat (first | refine blk_drewN ?_ _ | refine blk_drew ?_ | refine blk_alloc ?_ _)); refine blk_far ?_ NB155_183.out _; (with_reducible repeat (first | refine blk_drewN ?_ _ | refine blk_drew ?_ | refine blk_alloc ?_ _)); refine blk_far ?_ NB155_183.out _; (with_reducible repeat (first | refine blk_drewN ?_ _ | refine blk_drew ?_ | refine blk_alloc ?_ _)); refine blk_far ?_ NB155_183.out _; (with_reducible repeat (first | refine blk_drewN ?_ _ | refine blk_drew ?_ | refine blk_alloc ?_ _)); refine blk_far ?_ NB155_183.out _; (with_reducible repeat (first | refine blk_drewN ?_ _ | refine blk_drew ?_ | refine blk_alloc ?_ _)); exact BK155.out) hb); have n2_ := Aside0.mk (blk_below (g := gb183) (o := .cells #[.slice A182_0 ((rd_T53 l0_5 x43_3).f0).length c182_0, .int .i64 ((rd_T53 l0_5 x43_3).f1), .int .i64 ((rd_T53 l0_5 x43_3).f2), .int .i64 ((rd_T53 l0_5 x43_3).f3.f0), .int .i64 ((rd_T53 l0_5 x43_3).f3.f1)] 53 (0, 0)) (by (with_reducible repeat (first | refine blk_drewN ?_ _ | refine blk_drew ?_ | refine blk_alloc ?_ _)); refine blk_put (cs := #[.slice A182_0 ((rd_T53 l0_5 x43_3).f0).length c182_0, .int .i64 ((rd_T53 l0_5 x43_3).f1), .int .i64 ((rd_T53 l0_5 x43_3).f2), .int .i64 ((rd_T53 l0_5 x43_3).f3.f0), .int .i64 0]) ?_ 4 _ rfl; (with_reducible repeat (first | refine blk_drewN ?_ _ | refine blk_drew ?_ | refine blk_alloc ?_ _)); refine blk_put (cs := #[.slice A182_0 ((rd_T53 l0_5 x43_3).f0).length c182_0, .int .i64 ((rd_T53 l0_5 x43_3).f1), .int .i64 ((rd_T53 l0_5 x43_3).f2), .int .i64 0, .int .i64 0]) ?_ 3 _ rfl; (with_reducible repeat (first | refine blk_drewN ?_ _ | refine blk_drew ?_ | refine blk_alloc ?_ _)); refine blk_put (cs := #[.slice A182_0 ((rd_T53 l0_5 x43_3).f0).length c182_0, .int .i64 ((rd_T53 l0_5 x43_3).f1), .int .i64 0, .int .i64 0, .int .i64 0]) ?_ 2 _ rfl; (with_reducible repeat (first | refine blk_drewN ?_ _ | refine blk_drew ?_ | refine blk_alloc ?_ _)); refine blk_put (cs := #[.slice A182_0 ((rd_T53 l0_5 x43_3).f0).length c182_0, .int .i64 0, .int .i64 0, .int .i64 0, .int .i64 0]) ?_ 1 _ rfl; (with_reducible repeat (first | refine blk_drewN ?_ _ | refine blk_drew ?_ | refine blk_alloc ?_ _)); refine blk_put (cs := #[.slice none 0 0, .int .i64 0, .int .i64 0, .int .i64 0, .int .i64 0]) ?_ 0 _ rfl; (with_reducible repeat (first | refine blk_drewN ?_ _ | refine blk_drew ?_ | refine blk_alloc ?_ _)); exact BK183.out) hb); have n3_ := Aside0.mk (below_step (bq27) hb); clear HO_4 BK155 BK183 HB; have HO_4 := n0_; have BK155 := n1_; have BK183 := n2_; have HB := n3_; clear n0_ n1_ n2_ n3_ hb) | ((with_reducible refine gate_builtin (b := .append) (xs := #[.tmp 48, .tmp 52]) rfl ?_); at_builtin; refine Kd.R_append Kd.string (w0 := w) w.heap.size rfl (.tmp 48) (.tmp 52) 31 9 (.string ⟨#[]⟩) 16 rfl Tryd.underlying31 info9 rfl (by decide) (by omega) u4 x4_3 ((⟨#[98, 108, 111, 99, 107, 32]⟩ : ByteArray) ++ t184) [.string ((⟨#[98, 108, 111, 99, 107, 32]⟩ : ByteArray) ++ t184)] (fun _ => True) (fun _ => False) rfl rfl ?aP (fun _ hk => hk.elim) ?aF ?aO ?aB ?aS ?aL ?_; (case aP => exact rfl); (case aB => exact (bq27)); (case aF => exact (fun _ _ => trivial)); (case aO => exact (bq73)); (case aS => exact (below_size (bq27))); (case aL => have := LMc41.out; omega); intro v186 w46 ho hb hg hat; rw [← Ny185.out] at ho; have n0_ := Aside0.mk (blkG BK155.out hg (Kd.R_ne HO_4.out BK155.out (by decide))); have n1_ := Aside0.mk (blkG BK183.out hg (Kd.R_ne HO_4.out BK183.out (by decide))); have n2_ := Aside0.mk (hb); have n3_ := Aside0.mk (ho); clear BK155 BK183 HB HO_4; have BK155 := n0_; have BK183 := n1_; have HB := n2_; have HO187 := n3_; clear n0_ n1_ n2_ n3_ ho hb hg hat; obtain ⟨hcz47_0, hcz47_1, hcz47_2, hcz47_3, hcz47_4, hfz47_0, hfz47_1, hfz47_2, hfz47_3, hfz47_4⟩ := bk5 BK183.out))
              go_loopg [4, 57] k3 (fun kq v4 v57 w' => ∃ (x4_4 : List ByteArray) (x57_4 : Int), v57 = .int .i64 x57_4 ∧ Aside0 (ir_function.l1 kq x4_4 l0_5 (l0_5.length : Int) x43_3 ((rd_T53 l0_5 x43_3).f0) (((rd_T53 l0_5 x43_3).f0).length : Int) x57_4 a0_0 l0_1 a0_2 l0_3 l0_4 l0_5 ((rd_T53 l0_5 x43_3).f0) ((rd_T53 l0_5 x43_3).f1) ((rd_T53 l0_5 x43_3).f2) ((rd_T53 l0_5 x43_3).f3.f0) ((rd_T53 l0_5 x43_3).f3.f1) = some r) ∧ Aside0 (kq ≤ k3) ∧ Aside0 (Kd.R Kd.string 9 w' w.heap.size (fun _ => True) v4 x4_4) ∧ Aside0 (w'.heap[gb155]? = some (.cells #[.string a0_0, (.slice A0_1 l0_1.length c0_1), .string a0_2, (.slice A0_3 l0_3.length c0_3), (.slice A0_4 l0_4.length c0_4), (.slice (some ad182) l0_5.length c0_5)] 40 (0, 0))) ∧ Aside0 (w'.heap[gb183]? = some (.cells #[(.slice A182_0 ((rd_T53 l0_5 x43_3).f0).length c182_0), .int .i64 ((rd_T53 l0_5 x43_3).f1), .int .i64 ((rd_T53 l0_5 x43_3).f2), .int .i64 ((rd_T53 l0_5 x43_3).f3.f0), .int .i64 ((rd_T53 l0_5 x43_3).f3.f1)] 53 (0, 0))) ∧ Aside0 (Below w.heap.size w w'))
              case atStart => exact ⟨(y185), (0), (bq78), H', ⟨Nat.le_refl _⟩, ⟨by (with_reducible repeat (first | apply Kd.R_alloc | apply Kd.R_drewN | apply Kd.R_drew)); exact HO187.out⟩, ⟨by (with_reducible repeat (first | refine blk_drewN ?_ _ | refine blk_drew ?_ | refine blk_alloc ?_ _)); exact BK155.out⟩, ⟨by (with_reducible repeat (first | refine blk_drewN ?_ _ | refine blk_drew ?_ | refine blk_alloc ?_ _)); exact BK183.out⟩, ⟨bq27⟩⟩
              case round =>
               clear H' c36b0 c37b0 c38b0 c40 c40b0 c40b1 c40b2 hcz44_0 hcz44_1 hcz44_2 hcz44_3 hcz44_4 hcz47_0 hcz47_1 hcz47_2 hcz47_3 hcz47_4 hfz44_0 hfz44_1 hfz44_2 hfz44_3 hfz44_4 hfz47_0 hfz47_1 hfz47_2 hfz47_3 hfz47_4 hx182_0 hx182_1 hx182_2 hx182_3 hx182_4 p182 q182
               obtain ⟨x4_4, x57_4, rfl, HA, HK4, HO_4, BK155, BK183, HB⟩ := hrel
               cases gk with
               | zero => exact absurd HA.out (by simp [ir_function.l1])
               | succ k4 =>
                have H := HA.out
                clear HA
                simp only [ir_function.l1] at H
                by_cases c48 : x57_4 < (((rd_T53 l0_5 x43_3).f0).length : Int)
                ·rw [if_pos c48] at H
                 have c48b0 := decide_eq_true c48
                 clear c48
                 by_cases c49 : 0 ≤ x57_4
                 ·rw [if_pos c49] at H
                  have c49b0 := decide_eq_true c49
                  clear c49
                  by_cases c50 : x57_4 < (((rd_T53 l0_5 x43_3).f0).length : Int)
                  ·rw [if_pos c50] at H
                   have c50b0 := decide_eq_true c50
                   clear c50
                   replace H := Option.bind_eq_some_iff.mp H
                   obtain ⟨t189, A510, H⟩ := H
                   (try dsimp only at H)
                   have A51 := Aside0.mk A510
                   clear A510
                   by_cases c52 : x4_4.length < 8796093022208
                   ·rw [if_pos c52] at H
                    have LMc52 := Aside0.mk c52
                    clear c52
                    obtain ⟨y190, hy190⟩ : ∃ y_ : List ByteArray, y_ = (x4_4 ++ [t189]) := ⟨_, rfl⟩
                    replace H : (ir_function.l1 k4 y190 l0_5 (l0_5.length : Int) x43_3 ((rd_T53 l0_5 x43_3).f0) (((rd_T53 l0_5 x43_3).f0).length : Int) (wrap64 (x57_4 + 1)) a0_0 l0_1 a0_2 l0_3 l0_4 l0_5 ((rd_T53 l0_5 x43_3).f0) ((rd_T53 l0_5 x43_3).f1) ((rd_T53 l0_5 x43_3).f2) ((rd_T53 l0_5 x43_3).f3.f0) ((rd_T53 l0_5 x43_3).f3.f1)) = some r := by first | (rw [hy190]; with_reducible exact H) | (have H2_ := (Option.bind_some _ _).symm.trans H; rw [hy190]; with_reducible exact H2_) | (have H2_ := (Option.bind_some _ _).symm.trans H; with_reducible exact H2_) | with_reducible exact H | (rw [hy190]; exact H) | exact H
                    have Ny190 := Aside0.mk hy190
                    clear hy190
                    have H' := Aside0.mk H
                    clear H
                    have p188 : 0 ≤ (x57_4 : Int) := of_decide_eq_true (bq77)
                    have q188 : x57_4 < (((rd_T53 l0_5 x43_3).f0).length : Int) := of_decide_eq_true (bq77)
                    obtain ⟨ad188, e188, hx188_0⟩ := Kd.at_int HR182_0.out x57_4 p188 q188
                    cases e188
                    replace hx188_0 := (HB.out.cell (World.block_lt_of_cell? w _ hx188_0)).trans hx188_0
                    replace p188 := eq_true p188
                    replace q188 := eq_true q188
                    have hnb53 := NB155_183.out
                    have hnc53 := NB183_155.out
                    obtain ⟨hcz54_0, hcz54_1, hcz54_2, hcz54_3, hcz54_4, hcz54_5, hfz54_0, hfz54_1, hfz54_2, hfz54_3, hfz54_4, hfz54_5⟩ := bk6 BK155.out
                    go_wp2_with (first | ((with_reducible refine gate_callee (f := 25) rfl ?_); refine goesL_ (some 64) rfl rfl Tryd.func25 (by kernel_rfl) rfl #[.agg #[.string a0_0, .slice A0_1 l0_1.length c0_1, .string a0_2, .slice A0_3 l0_3.length c0_3, .slice A0_4 l0_4.length c0_4, .slice (some ad182) l0_5.length c0_5], .int .i64 (rd ((rd_T53 l0_5 x43_3).f0) x57_4)] rfl (bq48) ?_; (with_reducible refine (ir_Line.calls k4 a0_0 _ _ l0_1 a0_2 _ _ l0_3 _ _ l0_4 _ _ l0_5 (rd ((rd_T53 l0_5 x43_3).f0) x57_4) t189 _ ?side1 ?side2 ?side3 ?side4 ?side5 ?side6 ?side7 ?side8 A51.out).mono ?_); (case side1 => repeat (first | exact (Kd.C_below HR0_1.out HB.out) | (with_reducible refine Kd.C_alloc ?_ _) | (with_reducible refine Kd.C_drewN ?_ _) | (with_reducible refine Kd.C_drew ?_))); (case side2 => exact HC0_1.out); (case side3 => repeat (first | exact (Kd.C_below HR0_3.out HB.out) | (with_reducible refine Kd.C_alloc ?_ _) | (with_reducible refine Kd.C_drewN ?_ _) | (with_reducible refine Kd.C_drew ?_))); (case side4 => exact HC0_3.out); (case side5 => repeat (first | exact (Kd.C_below HR0_4.out HB.out) | (with_reducible refine Kd.C_alloc ?_ _) | (with_reducible refine Kd.C_drewN ?_ _) | (with_reducible refine Kd.C_drew ?_))); (case side6 => exact HC0_4.out); (case side7 => repeat (first | exact (Kd.C_below HR0_5.out HB.out) | (with_reducible refine Kd.C_alloc ?_ _) | (with_reducible refine Kd.C_drewN ?_ _) | (with_reducible refine Kd.C_drew ?_))); (case side8 => exact HC0_5.out); rintro e w55 ⟨rfl, hb⟩; refine ⟨_, rfl, ?_⟩; have n0_ := Aside0.mk (Kd.R_below (bq73) hb); have n1_ := Aside0.mk (blkB BK155.out hb); have n2_ := Aside0.mk (blkB BK183.out hb); have n3_ := Aside0.mk (below_step (bq27) hb); clear HO_4 BK155 BK183 HB; have HO_4 := n0_; have BK155 := n1_; have BK183 := n2_; have HB := n3_; clear n0_ n1_ n2_ n3_ hb) | ((with_reducible refine gate_builtin (b := .append) (xs := #[.tmp 61, .tmp 65]) rfl ?_); at_builtin; refine Kd.R_append Kd.string (w0 := w) w.heap.size rfl (.tmp 61) (.tmp 65) 31 9 (.string ⟨#[]⟩) 16 rfl Tryd.underlying31 info9 rfl (by decide) (by omega) u4 x4_4 t189 [.string t189] (fun _ => True) (fun _ => False) rfl rfl ?aP (fun _ hk => hk.elim) ?aF ?aO ?aB ?aS ?aL ?_; (case aP => exact rfl); (case aB => exact (bq27)); (case aF => exact (fun _ _ => trivial)); (case aO => exact (bq73)); (case aS => exact (below_size (bq27))); (case aL => have := LMc52.out; omega); intro v191 w56 ho hb hg hat; rw [← Ny190.out] at ho; have n0_ := Aside0.mk (blkG BK155.out hg (Kd.R_ne HO_4.out BK155.out (by decide))); have n1_ := Aside0.mk (blkG BK183.out hg (Kd.R_ne HO_4.out BK183.out (by decide))); have n2_ := Aside0.mk (hb); have n3_ := Aside0.mk (ho); clear BK155 BK183 HB HO_4; have BK155 := n0_; have BK183 := n1_; have HB := n2_; have HO192 := n3_; clear n0_ n1_ n2_ n3_ ho hb hg hat))
                    go_roundg k4
                    case measure => have := HJ3.out; have := HJ17.out; have := HK3.out; have := HK4.out; omega
                    case rel => exact ⟨(y190), (wrap64 (x57_4 + 1)), (bq78), H', ⟨by have := HJ3.out; have := HJ17.out; have := HK3.out; have := HK4.out; omega⟩, ⟨by (with_reducible repeat (first | apply Kd.R_alloc | apply Kd.R_drewN | apply Kd.R_drew)); exact HO192.out⟩, ⟨by (with_reducible repeat (first | refine blk_drewN ?_ _ | refine blk_drew ?_ | refine blk_alloc ?_ _)); exact BK155.out⟩, ⟨by (with_reducible repeat (first | refine blk_drewN ?_ _ | refine blk_drew ?_ | refine blk_alloc ?_ _)); exact BK183.out⟩, ⟨bq27⟩⟩
                   ·rw [if_neg c52] at H
                    exact absurd H (by simp)
                  ·rw [if_neg c50] at H
                   exact absurd H (by simp)
                 ·rw [if_neg c49] at H
                  exact absurd H (by simp)
                ·rw [if_neg c48] at H
                 have c48b0 := decide_eq_false c48
                 clear c48
                 replace H := Option.bind_eq_some_iff.mp H
                 obtain ⟨t193, A570, H⟩ := H
                 (try dsimp only at H)
                 have A57 := Aside0.mk A570
                 clear A570
                 by_cases c58 : x4_4.length < 8796093022208
                 ·rw [if_pos c58] at H
                  have LMc58 := Aside0.mk c58
                  clear c58
                  obtain ⟨y194, hy194⟩ : ∃ y_ : List ByteArray, y_ = (x4_4 ++ [t193]) := ⟨_, rfl⟩
                  replace H : (ir_function.l0 k4 y194 l0_5 (l0_5.length : Int) (wrap64 (x43_3 + 1)) a0_0 l0_1 a0_2 l0_3 l0_4 l0_5) = some r := by first | (rw [hy194]; with_reducible exact H) | (have H2_ := (Option.bind_some _ _).symm.trans H; rw [hy194]; with_reducible exact H2_) | (have H2_ := (Option.bind_some _ _).symm.trans H; with_reducible exact H2_) | with_reducible exact H | (rw [hy194]; exact H) | exact H
                  have Ny194 := Aside0.mk hy194
                  clear hy194
                  have H' := Aside0.mk H
                  clear H
                  have hnb59 := NB183_155.out
                  have hnc59 := NB155_183.out
                  obtain ⟨hcz60_0, hcz60_1, hcz60_2, hcz60_3, hcz60_4, hfz60_0, hfz60_1, hfz60_2, hfz60_3, hfz60_4⟩ := bk5 BK183.out
                  go_wp2_with (first | ((with_reducible refine gate_callee (f := 48) rfl ?_); refine goesL_ (some 70) rfl rfl Tryd.func48 (by kernel_rfl) rfl #[.agg #[.slice A182_0 ((rd_T53 l0_5 x43_3).f0).length c182_0, .int .i64 ((rd_T53 l0_5 x43_3).f1), .int .i64 ((rd_T53 l0_5 x43_3).f2), .int .i64 ((rd_T53 l0_5 x43_3).f3.f0), .int .i64 ((rd_T53 l0_5 x43_3).f3.f1)]] rfl (bq48) ?_; (with_reducible refine (ir_jump.calls k4 _ _ ((rd_T53 l0_5 x43_3).f0) ((rd_T53 l0_5 x43_3).f1) ((rd_T53 l0_5 x43_3).f2) ((rd_T53 l0_5 x43_3).f3.f0) ((rd_T53 l0_5 x43_3).f3.f1) t193 _ ?side1 ?side2 A57.out).mono ?_); (case side1 => repeat (first | exact (Kd.C_below HR182_0.out HB.out) | (with_reducible refine Kd.C_alloc ?_ _) | (with_reducible refine Kd.C_drewN ?_ _) | (with_reducible refine Kd.C_drew ?_))); (case side2 => exact HC182_0.out); rintro e w61 ⟨rfl, hb⟩; refine ⟨_, rfl, ?_⟩; have n0_ := Aside0.mk (Kd.R_below (bq73) hb); have n1_ := Aside0.mk (blkB BK155.out hb); have n2_ := Aside0.mk (blkB BK183.out hb); have n3_ := Aside0.mk (below_step (bq27) hb); clear HO_4 BK155 BK183 HB; have HO_4 := n0_; have BK155 := n1_; have BK183 := n2_; have HB := n3_; clear n0_ n1_ n2_ n3_ hb) | ((with_reducible refine gate_builtin (b := .append) (xs := #[.tmp 68, .tmp 71]) rfl ?_); at_builtin; refine Kd.R_append Kd.string (w0 := w) w.heap.size rfl (.tmp 68) (.tmp 71) 31 9 (.string ⟨#[]⟩) 16 rfl Tryd.underlying31 info9 rfl (by decide) (by omega) u4 x4_4 t193 [.string t193] (fun _ => True) (fun _ => False) rfl rfl ?aP (fun _ hk => hk.elim) ?aF ?aO ?aB ?aS ?aL ?_; (case aP => exact rfl); (case aB => exact (bq27)); (case aF => exact (fun _ _ => trivial)); (case aO => exact (bq73)); (case aS => exact (below_size (bq27))); (case aL => have := LMc58.out; omega); intro v195 w62 ho hb hg hat; rw [← Ny194.out] at ho; have n0_ := Aside0.mk (blkG BK155.out hg (Kd.R_ne HO_4.out BK155.out (by decide))); have n1_ := Aside0.mk (blkG BK183.out hg (Kd.R_ne HO_4.out BK183.out (by decide))); have n2_ := Aside0.mk (hb); have n3_ := Aside0.mk (ho); clear BK155 BK183 HB HO_4; have BK155 := n0_; have BK183 := n1_; have HB := n2_; have HO196 := n3_; clear n0_ n1_ n2_ n3_ ho hb hg hat))
                  go_roundg k4
                  case measure => have := HJ3.out; have := HJ17.out; have := HK3.out; have := HK4.out; omega
                  case rel => exact ⟨(y194), (wrap64 (x43_3 + 1)), (bq78), H', ⟨by have := HJ3.out; have := HJ17.out; have := HK3.out; have := HK4.out; omega⟩, ⟨by (with_reducible repeat (first | apply Kd.R_alloc | apply Kd.R_drewN | apply Kd.R_drew)); exact HO196.out⟩, ⟨by (with_reducible repeat (first | refine blk_drewN ?_ _ | refine blk_drew ?_ | refine blk_alloc ?_ _)); exact BK155.out⟩, ⟨bq27⟩⟩
                 ·rw [if_neg c58] at H
                  exact absurd H (by simp)
             ·rw [if_neg c41] at H
              exact absurd H (by simp)
            ·rw [if_neg c40] at H
             exact absurd H (by simp)
           ·rw [if_neg c38] at H
            exact absurd H (by simp)
          ·rw [if_neg c37] at H
           exact absurd H (by simp)
         ·rw [if_neg c36] at H
          have c36b0 := decide_eq_false c36
          clear c36
          obtain rfl := Option.some.inj H
          go_wp2
          go_ret
          exact ⟨_, by first | rfl | (simp [errW_none, errW_some] <;> rfl) | (simp [*, errW_none, errW_some] <;> rfl), bq73, bq38⟩
  ·rw [if_neg c3] at H
   exact absurd H (by simp)
 ·rw [if_neg c2] at H
  exact absurd H (by simp)
/-! ### ir_Lines: function 11 -/
mutual
def ir_Lines.l0 : Nat → List ByteArray → List (S58) → Int → Int → List (S58) → List (S61) → List (S40) → Option (List ByteArray)
 | 0, _, _, _, _, _, _, _ => none
 | k + 1, x3, x14, x15, x16, x198000, x198001, x198002 => if x16 < x15 then (if 0 ≤ x16 then (if x16 < (x14.length : Int) then (ir_Lines.l1 k x3 (([(⟨#[115, 116, 114, 117, 99, 116]⟩ : ByteArray), (rd_T58 x14 x16).f0] : List ByteArray)) x14 x15 x16 ((rd_T58 x14 x16).f1) (((rd_T58 x14 x16).f1).length : Int) 0 x198000 x198001 x198002) else (none)) else (none)) else (ir_Lines.l2 k x3 x198001 (x198001.length : Int) 0 x198000 x198001 x198002)
def ir_Lines.l1 : Nat → List ByteArray → List ByteArray → List (S58) → Int → Int → List (S61) → Int → Int → List (S58) → List (S61) → List (S40) → Option (List ByteArray)
 | 0, _, _, _, _, _, _, _, _, _, _, _ => none
 | k + 1, x3, x6, x14, x15, x16, x24, x25, x26, x198000, x198001, x198002 => if x26 < x25 then (if 0 ≤ x26 then (if x26 < (x24.length : Int) then (if ((rd_T61 x24 x26).f0).size + 1 ≤ 9223372036854775807 then (if (((rd_T61 x24 x26).f0) ++ (⟨#[58]⟩ : ByteArray)).size + ((rd_T61 x24 x26).f1).size ≤ 9223372036854775807 then (if x6.length < 8796093022208 then (ir_Lines.l1 k x3 (x6 ++ [(((rd_T61 x24 x26).f0) ++ (⟨#[58]⟩ : ByteArray)) ++ ((rd_T61 x24 x26).f1)]) x14 x15 x16 x24 x25 (wrap64 (x26 + 1)) x198000 x198001 x198002) else (none)) else (none)) else (none)) else (none)) else (none)) else ((strings_Join.f x6 (⟨#[32]⟩ : ByteArray)).bind fun t208 => (if x3.length < 8796093022208 then (ir_Lines.l0 k (x3 ++ [t208]) x14 x15 (wrap64 (x16 + 1)) x198000 x198001 x198002) else (none)))
def ir_Lines.l2 : Nat → List ByteArray → List (S61) → Int → Int → List (S58) → List (S61) → List (S40) → Option (List ByteArray)
 | 0, _, _, _, _, _, _, _ => none
 | k + 1, x3, x47, x48, x49, x198000, x198001, x198002 => if x49 < x48 then (if 0 ≤ x49 then (if x49 < (x47.length : Int) then (if 7 + ((rd_T61 x47 x49).f0).size ≤ 9223372036854775807 then (if ((⟨#[103, 108, 111, 98, 97, 108, 32]⟩ : ByteArray) ++ ((rd_T61 x47 x49).f0)).size + 1 ≤ 9223372036854775807 then (if (((⟨#[103, 108, 111, 98, 97, 108, 32]⟩ : ByteArray) ++ ((rd_T61 x47 x49).f0)) ++ (⟨#[32]⟩ : ByteArray)).size + ((rd_T61 x47 x49).f1).size ≤ 9223372036854775807 then (if x3.length < 8796093022208 then (ir_Lines.l2 k (x3 ++ [(((⟨#[103, 108, 111, 98, 97, 108, 32]⟩ : ByteArray) ++ ((rd_T61 x47 x49).f0)) ++ (⟨#[32]⟩ : ByteArray)) ++ ((rd_T61 x47 x49).f1)]) x47 x48 (wrap64 (x49 + 1)) x198000 x198001 x198002) else (none)) else (none)) else (none)) else (none)) else (none)) else (none)) else (ir_Lines.l3 k x3 x198002 (x198002.length : Int) 0)
def ir_Lines.l3 : Nat → List ByteArray → List (S40) → Int → Int → Option (List ByteArray)
 | 0, _, _, _, _ => none
 | k + 1, x3, x65, x66, x67 => if x67 < x66 then (if 0 ≤ x67 then (if x67 < (x65.length : Int) then ((ir_function.f k ((rd_T40 x65 x67).f0) ((rd_T40 x65 x67).f1) ((rd_T40 x65 x67).f2) ((rd_T40 x65 x67).f3) ((rd_T40 x65 x67).f4) ((rd_T40 x65 x67).f5)).bind fun t219 => (if x3.length + t219.length < 8796093022208 then (ir_Lines.l3 k (x3 ++ t219) x65 x66 (wrap64 (x67 + 1))) else (none))) else (none)) else (none)) else (some x3)
end
def ir_Lines.f (k : Nat) (l0_0 : List (S58)) (l0_1 : List (S61)) (l0_2 : List (S40)) : Option (List ByteArray) := ir_Lines.l0 k ([] : List ByteArray) l0_0 (l0_0.length : Int) 0 l0_0 l0_1 l0_2
theorem ir_Lines.mono_l : ∀ k, (∀ y0 y1 y2 y3 y4 y5 y6, LeO (ir_Lines.l0 k y0 y1 y2 y3 y4 y5 y6) (ir_Lines.l0 (k + 1) y0 y1 y2 y3 y4 y5 y6)) ∧ (∀ y0 y1 y2 y3 y4 y5 y6 y7 y8 y9 y10, LeO (ir_Lines.l1 k y0 y1 y2 y3 y4 y5 y6 y7 y8 y9 y10) (ir_Lines.l1 (k + 1) y0 y1 y2 y3 y4 y5 y6 y7 y8 y9 y10)) ∧ (∀ y0 y1 y2 y3 y4 y5 y6, LeO (ir_Lines.l2 k y0 y1 y2 y3 y4 y5 y6) (ir_Lines.l2 (k + 1) y0 y1 y2 y3 y4 y5 y6)) ∧ (∀ y0 y1 y2 y3, LeO (ir_Lines.l3 k y0 y1 y2 y3) (ir_Lines.l3 (k + 1) y0 y1 y2 y3))
 | 0 => ⟨fun _ _ _ _ _ _ _ r h => by simp [ir_Lines.l0] at h, fun _ _ _ _ _ _ _ _ _ _ _ r h => by simp [ir_Lines.l1] at h, fun _ _ _ _ _ _ _ r h => by simp [ir_Lines.l2] at h, fun _ _ _ _ r h => by simp [ir_Lines.l3] at h⟩
 | k + 1 => by
  obtain ⟨ih0, ih1, ih2, ih3⟩ := ir_Lines.mono_l k
  refine ⟨?_, ?_, ?_, ?_⟩
  ·intro y0 y1 y2 y3 y4 y5 y6
   unfold ir_Lines.l0
   repeat' first
   | (with_reducible exact ih1 _ _ _ _ _ _ _ _ _ _ _)
   | (with_reducible exact ih2 _ _ _ _ _ _ _)
   | (with_reducible exact LeO.refl _)
   | (with_reducible refine LeO.ite ?_ ?_)
  ·intro y0 y1 y2 y3 y4 y5 y6 y7 y8 y9 y10
   unfold ir_Lines.l1
   repeat' first
   | (with_reducible exact ih0 _ _ _ _ _ _ _)
   | (with_reducible exact ih1 _ _ _ _ _ _ _ _ _ _ _)
   | (with_reducible exact LeO.refl _)
   | (with_reducible refine LeO.ite ?_ ?_)
   | (with_reducible refine LeO.bind ?_ (fun _ => ?_))
  ·intro y0 y1 y2 y3 y4 y5 y6
   unfold ir_Lines.l2
   repeat' first
   | (with_reducible exact ih2 _ _ _ _ _ _ _)
   | (with_reducible exact ih3 _ _ _ _)
   | (with_reducible exact LeO.refl _)
   | (with_reducible refine LeO.ite ?_ ?_)
  ·intro y0 y1 y2 y3
   unfold ir_Lines.l3
   repeat' first
   | (with_reducible exact ih3 _ _ _ _)
   | (with_reducible exact ir_function.mono _ _ _ _ _ _ _)
   | (with_reducible exact LeO.refl _)
   | (with_reducible refine LeO.ite ?_ ?_)
   | (with_reducible refine LeO.bind ?_ (fun _ => ?_))
theorem ir_Lines.mono : ∀ a0 a1 a2 k, LeO (ir_Lines.f k a0 a1 a2) (ir_Lines.f (k + 1) a0 a1 a2) := by
 intro a0 a1 a2 k
 obtain ⟨ih0, ih1, ih2, ih3⟩ := ir_Lines.mono_l k
 unfold ir_Lines.f
 repeat' first
   | (with_reducible exact ih0 _ _ _ _ _ _ _)
set_option maxHeartbeats 8000000 in
set_option maxRecDepth 100000 in
theorem ir_Lines.calls (k : Nat) (A0_0 : Option Addr) (c0_0 : Nat) (l0_0 : List (S58)) (A0_1 : Option Addr) (c0_1 : Nat) (l0_1 : List (S61)) (A0_2 : Option Addr) (c0_2 : Nat) (l0_2 : List (S40)) (r : List ByteArray) (w : World) (hr0_0 : Kd.C k58 w A0_0 l0_0.length l0_0) (hc0_0 : l0_0.length ≤ c0_0) (hr0_1 : Kd.C k61 w A0_1 l0_1.length l0_1) (hc0_1 : l0_1.length ≤ c0_1) (hr0_2 : Kd.C k40 w A0_2 l0_2.length l0_2) (hc0_2 : l0_2.length ≤ c0_2) (h : ir_Lines.f k l0_0 l0_1 l0_2 = some r) (hG : Glob w := by first | assumption | (refine Glob.below (by assumption) ?_; repeat (first | with_reducible exact (Aside0.out (by assumption)) | (refine below_set ?_ (Aside0.out (by assumption))) | (with_reducible first | apply below_alloc | apply pw_below_drewN | apply below_drew1) | exact (Aside0.out (by assumption))))) :
  Calls Tryd.prog 11 #[.agg #[.slice A0_0 l0_0.length c0_0, .slice A0_1 l0_1.length c0_1, .slice A0_2 l0_2.length c0_2]] w fun e w' => ∃ v0_ : Value, e = .returned (v0_) ∧ Kd.R Kd.string 9 w' w.heap.size (fun _ => True) v0_ r ∧ Below w.heap.size w w' := by
 have hu26 := Tryd.underlying26
 have hu58 := Tryd.underlying58
 have hu61 := Tryd.underlying61
 have hu40 := Tryd.underlying40
 have HR0_0 := Aside0.mk hr0_0
 have HC0_0 := Aside0.mk hc0_0
 clear hr0_0 hc0_0
 have HR0_1 := Aside0.mk hr0_1
 have HC0_1 := Aside0.mk hc0_1
 clear hr0_1 hc0_1
 have HR0_2 := Aside0.mk hr0_2
 have HC0_2 := Aside0.mk hc0_2
 clear hr0_2 hc0_2
 have HB := Aside0.mk (Below.refl w.heap.size w)
 have H : (ir_Lines.l0 k ([] : List ByteArray) l0_0 (l0_0.length : Int) 0 l0_0 l0_1 l0_2) = some r := h
 clear h
 have H' := Aside0.mk H
 clear H
 go_enter Tryd.func11, Tryd.ntmps11
 go_wp2_with (first | ((with_reducible refine gate_dst (N := 1) rfl ?_); refine box_event ?hg (N := 1) ?hd (cs := #[.slice A0_0 l0_0.length c0_0, .slice A0_1 l0_1.length c0_1, .slice A0_2 l0_2.length c0_2]) (t := 26) ?hr ?_; (case hd => rfl); (case hg => rfl); (case hr => first | (go_simp; done) | (go_simp; rfl)); intro gb197 hg w2 hbox hb; have n0_ := Aside0.mk (below_step (bq51) hb); have n1_ := Aside0.mk (hbox); have n2_ := Aside0.mk ((bq35 : w.heap.size ≤ gb197)); have n3_ := Aside0.mk ((bq35 : w.heap.size ≤ gb197)); clear HB; have HB := n0_; have BK197 := n1_; have GW197 := n2_; have GE197 := n3_; clear n0_ n1_ n2_ n3_ hb hbox hg; obtain ⟨hcz3_0, hcz3_1, hcz3_2, hfz3_0, hfz3_1, hfz3_2⟩ := bk3 BK197.out))
 go_loopg [3, 16] k (fun kq v3 v16 w' => ∃ (x3_1 : List ByteArray) (x16_1 : Int), v16 = .int .i64 x16_1 ∧ Aside0 (ir_Lines.l0 kq x3_1 l0_0 (l0_0.length : Int) x16_1 l0_0 l0_1 l0_2 = some r) ∧ Aside0 (kq ≤ k) ∧ Aside0 (Kd.R Kd.string 9 w' w.heap.size (fun _ => True) v3 x3_1) ∧ Aside0 (w'.heap[gb197]? = some (.cells #[(.slice A0_0 l0_0.length c0_0), (.slice A0_1 l0_1.length c0_1), (.slice A0_2 l0_2.length c0_2)] 26 (0, 0))) ∧ Aside0 (Below w.heap.size w w'))
 case atStart => exact ⟨(([] : List ByteArray)), (0), (bq78), H', ⟨Nat.le_refl _⟩, ⟨by first | exact Kd.R_nil _ _ _ _ _ | exact Kd.N_nil _ _ _ _ _ | exact Kd.V_nil _ _ _ _ _ | exact Kd.Q_nil _ _ _ _ _ | exact Kd.S_nil _ _ _ _ _⟩, ⟨by (with_reducible repeat (first | refine blk_drewN ?_ _ | refine blk_drew ?_ | refine blk_alloc ?_ _)); exact BK197.out⟩, ⟨bq39⟩⟩
 case round =>
  clear H' hcz3_0 hcz3_1 hcz3_2 hfz3_0 hfz3_1 hfz3_2
  obtain ⟨x3_1, x16_1, rfl, HA, HK1, HO_3, BK197, HB⟩ := hrel
  cases gk with
  | zero => exact absurd HA.out (by simp [ir_Lines.l0])
  | succ k1 =>
   have H := HA.out
   clear HA
   simp only [ir_Lines.l0] at H
   by_cases c4 : x16_1 < (l0_0.length : Int)
   ·rw [if_pos c4] at H
    have c4b0 := decide_eq_true c4
    clear c4
    by_cases c5 : 0 ≤ x16_1
    ·rw [if_pos c5] at H
     have c5b0 := decide_eq_true c5
     clear c5
     by_cases c6 : x16_1 < (l0_0.length : Int)
     ·rw [if_pos c6] at H
      have c6b0 := decide_eq_true c6
      clear c6
      obtain ⟨y200, hy200⟩ : ∃ y_ : List ByteArray, y_ = (([(⟨#[115, 116, 114, 117, 99, 116]⟩ : ByteArray), (rd_T58 l0_0 x16_1).f0] : List ByteArray)) := ⟨_, rfl⟩
      replace H : (ir_Lines.l1 k1 x3_1 y200 l0_0 (l0_0.length : Int) x16_1 ((rd_T58 l0_0 x16_1).f1) (((rd_T58 l0_0 x16_1).f1).length : Int) 0 l0_0 l0_1 l0_2) = some r := by first | (rw [hy200]; with_reducible exact H) | (have H2_ := (Option.bind_some _ _).symm.trans H; rw [hy200]; with_reducible exact H2_) | (have H2_ := (Option.bind_some _ _).symm.trans H; with_reducible exact H2_) | with_reducible exact H | (rw [hy200]; exact H) | exact H
      have Ny200 := Aside0.mk hy200
      clear hy200
      have H' := Aside0.mk H
      clear H
      have p198 : 0 ≤ (x16_1 : Int) := of_decide_eq_true (bq77)
      have q198 : x16_1 < (l0_0.length : Int) := of_decide_eq_true (bq77)
      obtain ⟨ad198, A198_1, c198_1, e198, hx198_0, hx198_1, hl198_1, hi198_1⟩ := at_T58 HR0_0.out x16_1 p198 q198
      cases e198
      replace hx198_0 := (HB.out.cell (World.block_lt_of_cell? w _ hx198_0)).trans hx198_0
      replace hx198_1 := (HB.out.cell (World.block_lt_of_cell? w _ hx198_1)).trans hx198_1
      have HR198_1 := Aside0.mk hi198_1
      have HC198_1 := Aside0.mk hl198_1
      clear hi198_1 hl198_1
      replace p198 := eq_true p198
      replace q198 := eq_true q198
      go_wp2_with (first | ((with_reducible refine gate_dst (N := 5) rfl ?_); refine box_event ?hg (N := 5) ?hd (cs := #[.string (⟨#[]⟩ : ByteArray), .slice none 0 0]) (t := 58) ?hr ?_; (case hd => rfl); (case hg => rfl); (case hr => first | (go_simp; done) | (go_simp; rfl)); intro gb199 hg w7 hbox hb; have n0_ := Aside0.mk (Kd.R_below (bq72) hb); have n1_ := Aside0.mk (blkB BK197.out hb); have n2_ := Aside0.mk (below_step (bq39) hb); have n3_ := Aside0.mk (hbox); have n4_ := Aside0.mk ((bq17 : w.heap.size ≤ gb199)); have n5_ := Aside0.mk ((bq17 : w.heap.size ≤ gb199)); have n6_ := Aside0.mk ((bq79 : gb197 ≠ gb199)); have n7_ := Aside0.mk ((bq80 : gb199 ≠ gb197)); clear HO_3 BK197 HB; have HO_3 := n0_; have BK197 := n1_; have HB := n2_; have BK199 := n3_; have GW199 := n4_; have GE199 := n5_; have NB197_199 := n6_; have NB199_197 := n7_; clear n0_ n1_ n2_ n3_ n4_ n5_ n6_ n7_ hb hbox hg; have hnb8 := NB199_197.out; have hnc8 := NB197_199.out; obtain ⟨hcz9_0, hcz9_1, hfz9_0, hfz9_1⟩ := bk2 BK199.out) | ((with_reducible refine gate_dst (N := 22) rfl ?_); refine Kd.R_lit Kd.string _ 9 ?hg (N := 22) ?hd (xs := ([(⟨#[115, 116, 114, 117, 99, 116]⟩ : ByteArray), (rd_T58 l0_0 x16_1).f0] : List ByteArray)) (inner := [.string (⟨#[115, 116, 114, 117, 99, 116]⟩ : ByteArray), .string ((rd_T58 l0_0 x16_1).f0)]) (ok := fun _ => True) (okp := fun _ => True) ?hr ?hp (fun _ hk => hk) trivial (Below.refl _ _) (Nat.le_refl _) (by simp) ?_; (case hd => rfl); (case hg => rfl); (case hr => first | (go_simp; done) | (go_simp; rfl)); (case hp => exact (Reps.one (show Kd.M Kd.string _ _ _ (⟨#[115, 116, 114, 117, 99, 116]⟩ : ByteArray) [.string (⟨#[115, 116, 114, 117, 99, 116]⟩ : ByteArray)] from rfl) (Reps.one (show Kd.M Kd.string _ _ _ ((rd_T58 l0_0 x16_1).f0) [.string ((rd_T58 l0_0 x16_1).f0)] from rfl) (Reps.none _ _)))); intro v201 w10 ho11 hb hg_ hnew_; clear hg_ hnew_; (first | rw [← Ny200.out] at ho11 | (simp only [Int.reduceToNat] at ho11; rw [← Ny200.out] at ho11)); have n0_ := Aside0.mk (Kd.R_elder' (bq1) (Kd.R_base ho11) hb); have n1_ := Aside0.mk (Kd.R_lower (Kd.R_new' ho11 (Kd.R_lt (bq1))) (below_size (bq28))); have n2_ := Aside0.mk (blk_below (g := gb197) (o := .cells #[.slice (some ad198) l0_0.length c0_0, .slice A0_1 l0_1.length c0_1, .slice A0_2 l0_2.length c0_2] 26 (0, 0)) (by (with_reducible repeat (first | refine blk_drewN ?_ _ | refine blk_drew ?_ | refine blk_alloc ?_ _)); refine blk_far ?_ NB197_199.out _; (with_reducible repeat (first | refine blk_drewN ?_ _ | refine blk_drew ?_ | refine blk_alloc ?_ _)); refine blk_far ?_ NB197_199.out _; (with_reducible repeat (first | refine blk_drewN ?_ _ | refine blk_drew ?_ | refine blk_alloc ?_ _)); exact BK197.out) hb); have n3_ := Aside0.mk (blk_below (g := gb199) (o := .cells #[.string ((rd_T58 l0_0 x16_1).f0), .slice A198_1 ((rd_T58 l0_0 x16_1).f1).length c198_1] 58 (0, 0)) (by (with_reducible repeat (first | refine blk_drewN ?_ _ | refine blk_drew ?_ | refine blk_alloc ?_ _)); refine blk_put (cs := #[.string ((rd_T58 l0_0 x16_1).f0), .slice none 0 0]) ?_ 1 _ rfl; (with_reducible repeat (first | refine blk_drewN ?_ _ | refine blk_drew ?_ | refine blk_alloc ?_ _)); refine blk_put (cs := #[.string (⟨#[]⟩ : ByteArray), .slice none 0 0]) ?_ 0 _ rfl; (with_reducible repeat (first | refine blk_drewN ?_ _ | refine blk_drew ?_ | refine blk_alloc ?_ _)); exact BK199.out) hb); have n4_ := Aside0.mk (below_step (bq28) hb); clear HO_3 BK197 BK199 HB; have HO_3 := n0_; have HO202 := n1_; have BK197 := n2_; have BK199 := n3_; have HB := n4_; clear n0_ n1_ n2_ n3_ n4_ hb ho11; obtain ⟨hcz12_0, hcz12_1, hfz12_0, hfz12_1⟩ := bk2 BK199.out))
      go_loopg [6, 26] k1 (fun kq v6 v26 w' => ∃ (x6_2 : List ByteArray) (x26_2 : Int), v26 = .int .i64 x26_2 ∧ Aside0 (ir_Lines.l1 kq x3_1 x6_2 l0_0 (l0_0.length : Int) x16_1 ((rd_T58 l0_0 x16_1).f1) (((rd_T58 l0_0 x16_1).f1).length : Int) x26_2 l0_0 l0_1 l0_2 = some r) ∧ Aside0 (kq ≤ k1) ∧ Aside0 (Kd.R Kd.string 9 w' w.heap.size (fun k_ => some k_ ≠ (v6 : Value).ownBlock) u3 x3_1) ∧ Aside0 (Kd.R Kd.string 9 w' w.heap.size (fun k_ => some k_ ≠ (u3 : Value).ownBlock) v6 x6_2) ∧ Aside0 (w'.heap[gb197]? = some (.cells #[(.slice (some ad198) l0_0.length c0_0), (.slice A0_1 l0_1.length c0_1), (.slice A0_2 l0_2.length c0_2)] 26 (0, 0))) ∧ Aside0 (w'.heap[gb199]? = some (.cells #[.string ((rd_T58 l0_0 x16_1).f0), (.slice A198_1 ((rd_T58 l0_0 x16_1).f1).length c198_1)] 58 (0, 0))) ∧ Aside0 (Below w.heap.size w w'))
      case atStart => exact ⟨(y200), (0), (bq78), H', ⟨Nat.le_refl _⟩, ⟨by (with_reducible repeat (first | apply Kd.R_alloc | apply Kd.R_drewN | apply Kd.R_drew)); exact Kd.R_mono HO_3.out (fun _ hk => hk.2)⟩, ⟨by (with_reducible repeat (first | apply Kd.R_alloc | apply Kd.R_drewN | apply Kd.R_drew)); exact Kd.R_mono HO202.out (fun _ hk => hk.2)⟩, ⟨by (with_reducible repeat (first | refine blk_drewN ?_ _ | refine blk_drew ?_ | refine blk_alloc ?_ _)); exact BK197.out⟩, ⟨by (with_reducible repeat (first | refine blk_drewN ?_ _ | refine blk_drew ?_ | refine blk_alloc ?_ _)); exact BK199.out⟩, ⟨bq28⟩⟩
      case round =>
       clear H' c4b0 c5b0 c6b0 hcz12_0 hcz12_1 hcz9_0 hcz9_1 hfz12_0 hfz12_1 hfz9_0 hfz9_1 hx198_0 hx198_1 p198 q198
       obtain ⟨x6_2, x26_2, rfl, HA, HK2, HO_3, HO_6, BK197, BK199, HB⟩ := hrel
       cases gk with
       | zero => exact absurd HA.out (by simp [ir_Lines.l1])
       | succ k2 =>
        have H := HA.out
        clear HA
        simp only [ir_Lines.l1] at H
        by_cases c13 : x26_2 < (((rd_T58 l0_0 x16_1).f1).length : Int)
        ·rw [if_pos c13] at H
         have c13b0 := decide_eq_true c13
         clear c13
         by_cases c14 : 0 ≤ x26_2
         ·rw [if_pos c14] at H
          have c14b0 := decide_eq_true c14
          clear c14
          by_cases c15 : x26_2 < (((rd_T58 l0_0 x16_1).f1).length : Int)
          ·rw [if_pos c15] at H
           have c15b0 := decide_eq_true c15
           clear c15
           by_cases c16 : ((rd_T61 ((rd_T58 l0_0 x16_1).f1) x26_2).f0).size + 1 ≤ 9223372036854775807
           ·rw [if_pos c16] at H
            have c16b0 := eq_true c16
            have c16b1 := decide_eq_true c16
            try have c16b2 : (9223372036854775807 < ((rd_T61 ((rd_T58 l0_0 x16_1).f1) x26_2).f0).size + 1) = False := eq_false (Nat.not_lt.2 c16)
            by_cases c17 : (((rd_T61 ((rd_T58 l0_0 x16_1).f1) x26_2).f0) ++ (⟨#[58]⟩ : ByteArray)).size + ((rd_T61 ((rd_T58 l0_0 x16_1).f1) x26_2).f1).size ≤ 9223372036854775807
            ·rw [if_pos c17] at H
             have c17b0 := eq_true c17
             have c17b1 := decide_eq_true c17
             try have c17b2 : (9223372036854775807 < (((rd_T61 ((rd_T58 l0_0 x16_1).f1) x26_2).f0) ++ (⟨#[58]⟩ : ByteArray)).size + ((rd_T61 ((rd_T58 l0_0 x16_1).f1) x26_2).f1).size) = False := eq_false (Nat.not_lt.2 c17)
             by_cases c18 : x6_2.length < 8796093022208
             ·rw [if_pos c18] at H
              have LMc18 := Aside0.mk c18
              clear c18
              obtain ⟨y205, hy205⟩ : ∃ y_ : List ByteArray, y_ = (x6_2 ++ [(((rd_T61 ((rd_T58 l0_0 x16_1).f1) x26_2).f0) ++ (⟨#[58]⟩ : ByteArray)) ++ ((rd_T61 ((rd_T58 l0_0 x16_1).f1) x26_2).f1)]) := ⟨_, rfl⟩
              replace H : (ir_Lines.l1 k2 x3_1 y205 l0_0 (l0_0.length : Int) x16_1 ((rd_T58 l0_0 x16_1).f1) (((rd_T58 l0_0 x16_1).f1).length : Int) (wrap64 (x26_2 + 1)) l0_0 l0_1 l0_2) = some r := by first | (rw [hy205]; with_reducible exact H) | (have H2_ := (Option.bind_some _ _).symm.trans H; rw [hy205]; with_reducible exact H2_) | (have H2_ := (Option.bind_some _ _).symm.trans H; with_reducible exact H2_) | with_reducible exact H | (rw [hy205]; exact H) | exact H
              have Ny205 := Aside0.mk hy205
              clear hy205
              have H' := Aside0.mk H
              clear H
              have p203 : 0 ≤ (x26_2 : Int) := of_decide_eq_true (bq77)
              have q203 : x26_2 < (((rd_T58 l0_0 x16_1).f1).length : Int) := of_decide_eq_true (bq77)
              obtain ⟨ad203, e203, hx203_0, hx203_1⟩ := at_T61 HR198_1.out x26_2 p203 q203
              cases e203
              replace hx203_0 := (HB.out.cell (World.block_lt_of_cell? w _ hx203_0)).trans hx203_0
              replace hx203_1 := (HB.out.cell (World.block_lt_of_cell? w _ hx203_1)).trans hx203_1
              replace p203 := eq_true p203
              replace q203 := eq_true q203
              go_wp2_with (first | ((with_reducible refine gate_dst (N := 8) rfl ?_); refine box_event ?hg (N := 8) ?hd (cs := #[.string (⟨#[]⟩ : ByteArray), .string (⟨#[]⟩ : ByteArray)]) (t := 61) ?hr ?_; (case hd => rfl); (case hg => rfl); (case hr => first | (go_simp; done) | (go_simp; rfl)); intro gb204 hg w19 hbox hb; have n0_ := Aside0.mk (Kd.R_below (bq72) hb); have n1_ := Aside0.mk (Kd.R_below (bq71) hb); have n2_ := Aside0.mk (blkB BK197.out hb); have n3_ := Aside0.mk (blkB BK199.out hb); have n4_ := Aside0.mk (below_step (bq28) hb); have n5_ := Aside0.mk (hbox); have n6_ := Aside0.mk ((bq8 : w.heap.size ≤ gb204)); have n7_ := Aside0.mk ((bq8 : w.heap.size ≤ gb204)); have n8_ := Aside0.mk ((bq79 : gb197 ≠ gb204)); have n9_ := Aside0.mk ((bq80 : gb204 ≠ gb197)); have n10_ := Aside0.mk ((by rw [hg]; exact Nat.ne_of_lt (blkL BK199.out) : gb199 ≠ gb204)); have n11_ := Aside0.mk ((by rw [hg]; exact Nat.ne_of_gt (blkL BK199.out) : gb204 ≠ gb199)); clear HO_3 HO_6 BK197 BK199 HB; have HO_3 := n0_; have HO_6 := n1_; have BK197 := n2_; have BK199 := n3_; have HB := n4_; have BK204 := n5_; have GW204 := n6_; have GE204 := n7_; have NB197_204 := n8_; have NB204_197 := n9_; have NB199_204 := n10_; have NB204_199 := n11_; clear n0_ n1_ n2_ n3_ n4_ n5_ n6_ n7_ n8_ n9_ n10_ n11_ hb hbox hg; have hnb20 := NB204_197.out; have hnc20 := NB197_204.out; have hnb21 := NB204_199.out; have hnc21 := NB199_204.out; obtain ⟨hcz22_0, hcz22_1, hfz22_0, hfz22_1⟩ := bk2 BK204.out) | ((with_reducible refine gate_builtin (b := .append) (xs := #[.tmp 30, .tmp 37]) rfl ?_); at_builtin; refine Kd.R_append Kd.string (w0 := w) w.heap.size rfl (.tmp 30) (.tmp 37) 31 9 (.string ⟨#[]⟩) 16 rfl Tryd.underlying31 info9 rfl (by decide) (by omega) u6 x6_2 ((((rd_T61 ((rd_T58 l0_0 x16_1).f1) x26_2).f0) ++ (⟨#[58]⟩ : ByteArray)) ++ ((rd_T61 ((rd_T58 l0_0 x16_1).f1) x26_2).f1)) [.string ((((rd_T61 ((rd_T58 l0_0 x16_1).f1) x26_2).f0) ++ (⟨#[58]⟩ : ByteArray)) ++ ((rd_T61 ((rd_T58 l0_0 x16_1).f1) x26_2).f1))] (fun k_ => some k_ ≠ (u3 : Value).ownBlock) (fun _ => False) rfl (by first | (go_simp; done) | (go_simp; rfl)) ?aP (fun _ hk => hk.elim) ?aF ?aO ?aB ?aS ?aL ?_; (case aP => exact rfl); (case aB => exact (bq11)); (case aF => exact (fun k_ hk => Kd.fresh' (Kd.R_lt (by (with_reducible repeat (first | apply Kd.R_alloc | apply Kd.R_drewN | apply Kd.R_drew)); exact (Kd.R_mono (Kd.R_far (p := ⟨gb204, 1, none⟩) (Kd.R_far (p := ⟨gb204, 0, none⟩) (Kd.R_types HO_3.out BK204.out (by decide)) (fun _ hk => hk.2) (.string ((rd_T61 ((rd_T58 l0_0 x16_1).f1) x26_2).f0))) (fun _ hk => hk.2) (.string ((rd_T61 ((rd_T58 l0_0 x16_1).f1) x26_2).f1))) (fun _ h_ => h_.1)))) k_ hk)); (case aO => exact (by (with_reducible repeat (first | apply Kd.R_alloc | apply Kd.R_drewN | apply Kd.R_drew)); exact Kd.R_mono (Kd.R_far (p := ⟨gb204, 1, none⟩) (Kd.R_far (p := ⟨gb204, 0, none⟩) (Kd.R_types HO_6.out BK204.out (by decide)) (fun _ hk => hk.2) (.string ((rd_T61 ((rd_T58 l0_0 x16_1).f1) x26_2).f0))) (fun _ hk => hk.2) (.string ((rd_T61 ((rd_T58 l0_0 x16_1).f1) x26_2).f1))) (fun _ hk => hk.1))); (case aS => exact (below_size (bq11))); (case aL => have := LMc18.out; omega); intro v206 w23 ho hb hg hat; rw [← Ny205.out] at ho; have n0_ := Aside0.mk (Kd.R_after (ok := (fun _ => True)) (by (with_reducible repeat (first | apply Kd.R_alloc | apply Kd.R_drewN | apply Kd.R_drew)); exact Kd.R_mono (Kd.R_far (p := ⟨gb204, 1, none⟩) (Kd.R_far (p := ⟨gb204, 0, none⟩) (Kd.R_types HO_3.out BK204.out (by decide)) (fun _ hk => hk.2) (.string ((rd_T61 ((rd_T58 l0_0 x16_1).f1) x26_2).f0))) (fun _ hk => hk.2) (.string ((rd_T61 ((rd_T58 l0_0 x16_1).f1) x26_2).f1))) (fun _ hk => ⟨trivial, hk.1⟩)) hg hat); have n1_ := Aside0.mk (blk_grown (g := gb197) (o := .cells #[.slice (some ad198) l0_0.length c0_0, .slice A0_1 l0_1.length c0_1, .slice A0_2 l0_2.length c0_2] 26 (0, 0)) (by (with_reducible repeat (first | refine blk_drewN ?_ _ | refine blk_drew ?_ | refine blk_alloc ?_ _)); refine blk_far ?_ NB197_204.out _; (with_reducible repeat (first | refine blk_drewN ?_ _ | refine blk_drew ?_ | refine blk_alloc ?_ _)); refine blk_far ?_ NB197_204.out _; (with_reducible repeat (first | refine blk_drewN ?_ _ | refine blk_drew ?_ | refine blk_alloc ?_ _)); exact BK197.out) hg (Kd.R_ne HO_6.out BK197.out (by decide))); have n2_ := Aside0.mk (blk_grown (g := gb199) (o := .cells #[.string ((rd_T58 l0_0 x16_1).f0), .slice (some ad203) ((rd_T58 l0_0 x16_1).f1).length c198_1] 58 (0, 0)) (by (with_reducible repeat (first | refine blk_drewN ?_ _ | refine blk_drew ?_ | refine blk_alloc ?_ _)); refine blk_far ?_ NB199_204.out _; (with_reducible repeat (first | refine blk_drewN ?_ _ | refine blk_drew ?_ | refine blk_alloc ?_ _)); refine blk_far ?_ NB199_204.out _; (with_reducible repeat (first | refine blk_drewN ?_ _ | refine blk_drew ?_ | refine blk_alloc ?_ _)); exact BK199.out) hg (Kd.R_ne HO_6.out BK199.out (by decide))); have n3_ := Aside0.mk (blk_grown (g := gb204) (o := .cells #[.string ((rd_T61 ((rd_T58 l0_0 x16_1).f1) x26_2).f0), .string ((rd_T61 ((rd_T58 l0_0 x16_1).f1) x26_2).f1)] 61 (0, 0)) (by (with_reducible repeat (first | refine blk_drewN ?_ _ | refine blk_drew ?_ | refine blk_alloc ?_ _)); refine blk_put (cs := #[.string ((rd_T61 ((rd_T58 l0_0 x16_1).f1) x26_2).f0), .string (⟨#[]⟩ : ByteArray)]) ?_ 1 _ rfl; (with_reducible repeat (first | refine blk_drewN ?_ _ | refine blk_drew ?_ | refine blk_alloc ?_ _)); refine blk_put (cs := #[.string (⟨#[]⟩ : ByteArray), .string (⟨#[]⟩ : ByteArray)]) ?_ 0 _ rfl; (with_reducible repeat (first | refine blk_drewN ?_ _ | refine blk_drew ?_ | refine blk_alloc ?_ _)); exact BK204.out) hg (Kd.R_ne HO_6.out BK204.out (by decide))); have n4_ := Aside0.mk (hb); have n5_ := Aside0.mk (ho); clear HO_3 BK197 BK199 BK204 HB HO_6; have HO_3 := n0_; have BK197 := n1_; have BK199 := n2_; have BK204 := n3_; have HB := n4_; have HO207 := n5_; clear n0_ n1_ n2_ n3_ n4_ n5_ ho hb hg hat))
              go_roundg k2
              case measure => have := HK1.out; have := HK2.out; omega
              case rel => exact ⟨(y205), (wrap64 (x26_2 + 1)), (bq78), H', ⟨by have := HK1.out; have := HK2.out; omega⟩, ⟨by (with_reducible repeat (first | apply Kd.R_alloc | apply Kd.R_drewN | apply Kd.R_drew)); exact Kd.R_mono HO_3.out (fun _ hk => hk.2)⟩, ⟨by (with_reducible repeat (first | apply Kd.R_alloc | apply Kd.R_drewN | apply Kd.R_drew)); exact HO207.out⟩, ⟨by (with_reducible repeat (first | refine blk_drewN ?_ _ | refine blk_drew ?_ | refine blk_alloc ?_ _)); exact BK197.out⟩, ⟨by (with_reducible repeat (first | refine blk_drewN ?_ _ | refine blk_drew ?_ | refine blk_alloc ?_ _)); exact BK199.out⟩, ⟨bq11⟩⟩
             ·rw [if_neg c18] at H
              exact absurd H (by simp)
            ·rw [if_neg c17] at H
             exact absurd H (by simp)
           ·rw [if_neg c16] at H
            exact absurd H (by simp)
          ·rw [if_neg c15] at H
           exact absurd H (by simp)
         ·rw [if_neg c14] at H
          exact absurd H (by simp)
        ·rw [if_neg c13] at H
         have c13b0 := decide_eq_false c13
         clear c13
         replace H := Option.bind_eq_some_iff.mp H
         obtain ⟨t208, A240, H⟩ := H
         (try dsimp only at H)
         have A24 := Aside0.mk A240
         clear A240
         by_cases c25 : x3_1.length < 8796093022208
         ·rw [if_pos c25] at H
          have LMc25 := Aside0.mk c25
          clear c25
          obtain ⟨y209, hy209⟩ : ∃ y_ : List ByteArray, y_ = (x3_1 ++ [t208]) := ⟨_, rfl⟩
          replace H : (ir_Lines.l0 k2 y209 l0_0 (l0_0.length : Int) (wrap64 (x16_1 + 1)) l0_0 l0_1 l0_2) = some r := by first | (rw [hy209]; with_reducible exact H) | (have H2_ := (Option.bind_some _ _).symm.trans H; rw [hy209]; with_reducible exact H2_) | (have H2_ := (Option.bind_some _ _).symm.trans H; with_reducible exact H2_) | with_reducible exact H | (rw [hy209]; exact H) | exact H
          have Ny209 := Aside0.mk hy209
          clear hy209
          have H' := Aside0.mk H
          clear H
          obtain ⟨Ao26, co26, eo26⟩ := Kd.R_slice HO_6.out
          subst eo26
          go_wp2_with (first | ((with_reducible refine gate_callee (f := 29) rfl ?_); refine goesL_ (some 42) rfl rfl Tryd.func29 (by kernel_rfl) rfl #[.slice Ao26 x6_2.length co26, .string (⟨#[32]⟩ : ByteArray)] rfl (bq48) ?_; (with_reducible refine (strings_Join.calls _ _ x6_2 (⟨#[32]⟩ : ByteArray) t208 _ ?side1 ?side2 A24.out).mono ?_); (case side1 => repeat (first | exact (Kd.R_reads' HO_6.out).2.2 | (with_reducible refine Kd.C_alloc ?_ _) | (with_reducible refine Kd.C_drewN ?_ _) | (with_reducible refine Kd.C_drew ?_))); (case side2 => exact (Kd.R_reads' HO_6.out).2.1); rintro e w27 ⟨rfl, hb⟩; refine ⟨_, rfl, ?_⟩; have n0_ := Aside0.mk (Kd.R_below (bq72) hb); have n1_ := Aside0.mk (Kd.R_below (bq71) hb); have n2_ := Aside0.mk (blkB BK197.out hb); have n3_ := Aside0.mk (blkB BK199.out hb); have n4_ := Aside0.mk (below_step (bq28) hb); clear HO_3 HO_6 BK197 BK199 HB; have HO_3 := n0_; have HO_6 := n1_; have BK197 := n2_; have BK199 := n3_; have HB := n4_; clear n0_ n1_ n2_ n3_ n4_ hb) | ((with_reducible refine gate_builtin (b := .append) (xs := #[.tmp 40, .tmp 43]) rfl ?_); at_builtin; refine Kd.R_append Kd.string (w0 := w) w.heap.size rfl (.tmp 40) (.tmp 43) 31 9 (.string ⟨#[]⟩) 16 rfl Tryd.underlying31 info9 rfl (by decide) (by omega) u3 x3_1 t208 [.string t208] (fun k_ => some k_ ≠ (.slice Ao26 x6_2.length co26 : Value).ownBlock) (fun _ => False) rfl rfl ?aP (fun _ hk => hk.elim) ?aF ?aO ?aB ?aS ?aL ?_; (case aP => exact rfl); (case aB => exact (bq28)); (case aF => exact (fun k_ hk => Kd.fresh' (Kd.R_lt (bq71)) k_ hk)); (case aO => exact (bq72)); (case aS => exact (below_size (bq28))); (case aL => have := LMc25.out; omega); intro v210 w28 ho hb hg hat; rw [← Ny209.out] at ho; have n0_ := Aside0.mk (Kd.R_after (ok := (fun _ => True)) (by (with_reducible repeat (first | apply Kd.R_alloc | apply Kd.R_drewN | apply Kd.R_drew)); exact Kd.R_mono HO_6.out (fun _ hk => ⟨trivial, hk⟩)) hg hat); have n1_ := Aside0.mk (blkG BK197.out hg (Kd.R_ne HO_3.out BK197.out (by decide))); have n2_ := Aside0.mk (blkG BK199.out hg (Kd.R_ne HO_3.out BK199.out (by decide))); have n3_ := Aside0.mk (hb); have n4_ := Aside0.mk (ho); clear HO_6 BK197 BK199 HB HO_3; have HO_6 := n0_; have BK197 := n1_; have BK199 := n2_; have HB := n3_; have HO211 := n4_; clear n0_ n1_ n2_ n3_ n4_ ho hb hg hat))
          go_roundg k2
          case measure => have := HK1.out; have := HK2.out; omega
          case rel => exact ⟨(y209), (wrap64 (x16_1 + 1)), (bq78), H', ⟨by have := HK1.out; have := HK2.out; omega⟩, ⟨by (with_reducible repeat (first | apply Kd.R_alloc | apply Kd.R_drewN | apply Kd.R_drew)); exact Kd.R_mono HO211.out (fun _ hk => trivial)⟩, ⟨by (with_reducible repeat (first | refine blk_drewN ?_ _ | refine blk_drew ?_ | refine blk_alloc ?_ _)); exact BK197.out⟩, ⟨bq28⟩⟩
         ·rw [if_neg c25] at H
          exact absurd H (by simp)
     ·rw [if_neg c6] at H
      exact absurd H (by simp)
    ·rw [if_neg c5] at H
     exact absurd H (by simp)
   ·rw [if_neg c4] at H
    have c4b0 := decide_eq_false c4
    clear c4
    have H' := Aside0.mk H
    clear H
    obtain ⟨hcz29_0, hcz29_1, hcz29_2, hfz29_0, hfz29_1, hfz29_2⟩ := bk3 BK197.out
    go_wp2
    go_loopg [3, 49] k1 (fun kq v3 v49 w' => ∃ (x3_2 : List ByteArray) (x49_2 : Int), v49 = .int .i64 x49_2 ∧ Aside0 (ir_Lines.l2 kq x3_2 l0_1 (l0_1.length : Int) x49_2 l0_0 l0_1 l0_2 = some r) ∧ Aside0 (kq ≤ k1) ∧ Aside0 (Kd.R Kd.string 9 w' w.heap.size (fun _ => True) v3 x3_2) ∧ Aside0 (w'.heap[gb197]? = some (.cells #[(.slice A0_0 l0_0.length c0_0), (.slice A0_1 l0_1.length c0_1), (.slice A0_2 l0_2.length c0_2)] 26 (0, 0))) ∧ Aside0 (Below w.heap.size w w'))
    case atStart => exact ⟨(x3_1), (0), (bq78), H', ⟨Nat.le_refl _⟩, ⟨bq72⟩, ⟨by (with_reducible repeat (first | refine blk_drewN ?_ _ | refine blk_drew ?_ | refine blk_alloc ?_ _)); exact BK197.out⟩, ⟨bq39⟩⟩
    case round =>
     clear H' c4b0 hcz29_0 hcz29_1 hcz29_2 hfz29_0 hfz29_1 hfz29_2
     obtain ⟨x3_2, x49_2, rfl, HA, HK2, HO_3, BK197, HB⟩ := hrel
     cases gk with
     | zero => exact absurd HA.out (by simp [ir_Lines.l2])
     | succ k2 =>
      have H := HA.out
      clear HA
      simp only [ir_Lines.l2] at H
      by_cases c30 : x49_2 < (l0_1.length : Int)
      ·rw [if_pos c30] at H
       have c30b0 := decide_eq_true c30
       clear c30
       by_cases c31 : 0 ≤ x49_2
       ·rw [if_pos c31] at H
        have c31b0 := decide_eq_true c31
        clear c31
        by_cases c32 : x49_2 < (l0_1.length : Int)
        ·rw [if_pos c32] at H
         have c32b0 := decide_eq_true c32
         clear c32
         by_cases c33 : 7 + ((rd_T61 l0_1 x49_2).f0).size ≤ 9223372036854775807
         ·rw [if_pos c33] at H
          have c33b0 := eq_true c33
          have c33b1 := decide_eq_true c33
          try have c33b2 : (9223372036854775807 < 7 + ((rd_T61 l0_1 x49_2).f0).size) = False := eq_false (Nat.not_lt.2 c33)
          by_cases c34 : ((⟨#[103, 108, 111, 98, 97, 108, 32]⟩ : ByteArray) ++ ((rd_T61 l0_1 x49_2).f0)).size + 1 ≤ 9223372036854775807
          ·rw [if_pos c34] at H
           have c34b0 := eq_true c34
           have c34b1 := decide_eq_true c34
           try have c34b2 : (9223372036854775807 < ((⟨#[103, 108, 111, 98, 97, 108, 32]⟩ : ByteArray) ++ ((rd_T61 l0_1 x49_2).f0)).size + 1) = False := eq_false (Nat.not_lt.2 c34)
           try have c34b3 : (9223372036854775807 < 7 + ((rd_T61 l0_1 x49_2).f0).size + 1) = False := eq_false (Nat.not_lt.2 (by have h_ := c34; simp only [ByteArray.size_append] at h_; exact h_))
           by_cases c35 : (((⟨#[103, 108, 111, 98, 97, 108, 32]⟩ : ByteArray) ++ ((rd_T61 l0_1 x49_2).f0)) ++ (⟨#[32]⟩ : ByteArray)).size + ((rd_T61 l0_1 x49_2).f1).size ≤ 9223372036854775807
           ·rw [if_pos c35] at H
            have c35b0 := eq_true c35
            have c35b1 := decide_eq_true c35
            try have c35b2 : (9223372036854775807 < (((⟨#[103, 108, 111, 98, 97, 108, 32]⟩ : ByteArray) ++ ((rd_T61 l0_1 x49_2).f0)) ++ (⟨#[32]⟩ : ByteArray)).size + ((rd_T61 l0_1 x49_2).f1).size) = False := eq_false (Nat.not_lt.2 c35)
            by_cases c36 : x3_2.length < 8796093022208
            ·rw [if_pos c36] at H
             have LMc36 := Aside0.mk c36
             clear c36
             obtain ⟨y214, hy214⟩ : ∃ y_ : List ByteArray, y_ = (x3_2 ++ [(((⟨#[103, 108, 111, 98, 97, 108, 32]⟩ : ByteArray) ++ ((rd_T61 l0_1 x49_2).f0)) ++ (⟨#[32]⟩ : ByteArray)) ++ ((rd_T61 l0_1 x49_2).f1)]) := ⟨_, rfl⟩
             replace H : (ir_Lines.l2 k2 y214 l0_1 (l0_1.length : Int) (wrap64 (x49_2 + 1)) l0_0 l0_1 l0_2) = some r := by first | (rw [hy214]; with_reducible exact H) | (have H2_ := (Option.bind_some _ _).symm.trans H; rw [hy214]; with_reducible exact H2_) | (have H2_ := (Option.bind_some _ _).symm.trans H; with_reducible exact H2_) | with_reducible exact H | (rw [hy214]; exact H) | exact H
             have Ny214 := Aside0.mk hy214
             clear hy214
             have H' := Aside0.mk H
             clear H
             have p212 : 0 ≤ (x49_2 : Int) := of_decide_eq_true (bq77)
             have q212 : x49_2 < (l0_1.length : Int) := of_decide_eq_true (bq77)
             obtain ⟨ad212, e212, hx212_0, hx212_1⟩ := at_T61 HR0_1.out x49_2 p212 q212
             cases e212
             replace hx212_0 := (HB.out.cell (World.block_lt_of_cell? w _ hx212_0)).trans hx212_0
             replace hx212_1 := (HB.out.cell (World.block_lt_of_cell? w _ hx212_1)).trans hx212_1
             replace p212 := eq_true p212
             replace q212 := eq_true q212
             go_wp2_with (first | ((with_reducible refine gate_dst (N := 10) rfl ?_); refine box_event ?hg (N := 10) ?hd (cs := #[.string (⟨#[]⟩ : ByteArray), .string (⟨#[]⟩ : ByteArray)]) (t := 61) ?hr ?_; (case hd => rfl); (case hg => rfl); (case hr => first | (go_simp; done) | (go_simp; rfl)); intro gb213 hg w37 hbox hb; have n0_ := Aside0.mk (Kd.R_below (bq72) hb); have n1_ := Aside0.mk (blkB BK197.out hb); have n2_ := Aside0.mk (below_step (bq39) hb); have n3_ := Aside0.mk (hbox); have n4_ := Aside0.mk ((bq17 : w.heap.size ≤ gb213)); have n5_ := Aside0.mk ((bq17 : w.heap.size ≤ gb213)); have n6_ := Aside0.mk ((bq79 : gb197 ≠ gb213)); have n7_ := Aside0.mk ((bq80 : gb213 ≠ gb197)); clear HO_3 BK197 HB; have HO_3 := n0_; have BK197 := n1_; have HB := n2_; have BK213 := n3_; have GW213 := n4_; have GE213 := n5_; have NB197_213 := n6_; have NB213_197 := n7_; clear n0_ n1_ n2_ n3_ n4_ n5_ n6_ n7_ hb hbox hg; have hnb38 := NB213_197.out; have hnc38 := NB197_213.out; obtain ⟨hcz39_0, hcz39_1, hfz39_0, hfz39_1⟩ := bk2 BK213.out) | ((with_reducible refine gate_builtin (b := .append) (xs := #[.tmp 53, .tmp 61]) rfl ?_); at_builtin; refine Kd.R_append Kd.string (w0 := w) w.heap.size rfl (.tmp 53) (.tmp 61) 31 9 (.string ⟨#[]⟩) 16 rfl Tryd.underlying31 info9 rfl (by decide) (by omega) u3 x3_2 ((((⟨#[103, 108, 111, 98, 97, 108, 32]⟩ : ByteArray) ++ ((rd_T61 l0_1 x49_2).f0)) ++ (⟨#[32]⟩ : ByteArray)) ++ ((rd_T61 l0_1 x49_2).f1)) [.string ((((⟨#[103, 108, 111, 98, 97, 108, 32]⟩ : ByteArray) ++ ((rd_T61 l0_1 x49_2).f0)) ++ (⟨#[32]⟩ : ByteArray)) ++ ((rd_T61 l0_1 x49_2).f1))] (fun _ => True) (fun _ => False) rfl (by first | (go_simp; done) | (go_simp; rfl)) ?aP (fun _ hk => hk.elim) ?aF ?aO ?aB ?aS ?aL ?_; (case aP => exact rfl); (case aB => exact (bq29)); (case aF => exact (fun _ _ => trivial)); (case aO => exact (by (with_reducible repeat (first | apply Kd.R_alloc | apply Kd.R_drewN | apply Kd.R_drew)); exact Kd.R_mono (Kd.R_far (p := ⟨gb213, 1, none⟩) (Kd.R_far (p := ⟨gb213, 0, none⟩) (Kd.R_types HO_3.out BK213.out (by decide)) (fun _ hk => hk.2) (.string ((rd_T61 l0_1 x49_2).f0))) (fun _ hk => hk.2) (.string ((rd_T61 l0_1 x49_2).f1))) (fun _ hk => trivial))); (case aS => exact (below_size (bq29))); (case aL => have := LMc36.out; omega); intro v215 w40 ho hb hg hat; rw [← Ny214.out] at ho; have n0_ := Aside0.mk (blk_grown (g := gb197) (o := .cells #[.slice A0_0 l0_0.length c0_0, .slice (some ad212) l0_1.length c0_1, .slice A0_2 l0_2.length c0_2] 26 (0, 0)) (by (with_reducible repeat (first | refine blk_drewN ?_ _ | refine blk_drew ?_ | refine blk_alloc ?_ _)); refine blk_far ?_ NB197_213.out _; (with_reducible repeat (first | refine blk_drewN ?_ _ | refine blk_drew ?_ | refine blk_alloc ?_ _)); refine blk_far ?_ NB197_213.out _; (with_reducible repeat (first | refine blk_drewN ?_ _ | refine blk_drew ?_ | refine blk_alloc ?_ _)); exact BK197.out) hg (Kd.R_ne HO_3.out BK197.out (by decide))); have n1_ := Aside0.mk (blk_grown (g := gb213) (o := .cells #[.string ((rd_T61 l0_1 x49_2).f0), .string ((rd_T61 l0_1 x49_2).f1)] 61 (0, 0)) (by (with_reducible repeat (first | refine blk_drewN ?_ _ | refine blk_drew ?_ | refine blk_alloc ?_ _)); refine blk_put (cs := #[.string ((rd_T61 l0_1 x49_2).f0), .string (⟨#[]⟩ : ByteArray)]) ?_ 1 _ rfl; (with_reducible repeat (first | refine blk_drewN ?_ _ | refine blk_drew ?_ | refine blk_alloc ?_ _)); refine blk_put (cs := #[.string (⟨#[]⟩ : ByteArray), .string (⟨#[]⟩ : ByteArray)]) ?_ 0 _ rfl; (with_reducible repeat (first | refine blk_drewN ?_ _ | refine blk_drew ?_ | refine blk_alloc ?_ _)); exact BK213.out) hg (Kd.R_ne HO_3.out BK213.out (by decide))); have n2_ := Aside0.mk (hb); have n3_ := Aside0.mk (ho); clear BK197 BK213 HB HO_3; have BK197 := n0_; have BK213 := n1_; have HB := n2_; have HO216 := n3_; clear n0_ n1_ n2_ n3_ ho hb hg hat))
             go_roundg k2
             case measure => have := HK1.out; have := HK2.out; omega
             case rel => exact ⟨(y214), (wrap64 (x49_2 + 1)), (bq78), H', ⟨by have := HK1.out; have := HK2.out; omega⟩, ⟨by (with_reducible repeat (first | apply Kd.R_alloc | apply Kd.R_drewN | apply Kd.R_drew)); exact HO216.out⟩, ⟨by (with_reducible repeat (first | refine blk_drewN ?_ _ | refine blk_drew ?_ | refine blk_alloc ?_ _)); exact BK197.out⟩, ⟨bq29⟩⟩
            ·rw [if_neg c36] at H
             exact absurd H (by simp)
           ·rw [if_neg c35] at H
            exact absurd H (by simp)
          ·rw [if_neg c34] at H
           exact absurd H (by simp)
         ·rw [if_neg c33] at H
          exact absurd H (by simp)
        ·rw [if_neg c32] at H
         exact absurd H (by simp)
       ·rw [if_neg c31] at H
        exact absurd H (by simp)
      ·rw [if_neg c30] at H
       have c30b0 := decide_eq_false c30
       clear c30
       have H' := Aside0.mk H
       clear H
       obtain ⟨hcz41_0, hcz41_1, hcz41_2, hfz41_0, hfz41_1, hfz41_2⟩ := bk3 BK197.out
       go_wp2
       go_loopg [3, 67] k2 (fun kq v3 v67 w' => ∃ (x3_3 : List ByteArray) (x67_3 : Int), v67 = .int .i64 x67_3 ∧ Aside0 (ir_Lines.l3 kq x3_3 l0_2 (l0_2.length : Int) x67_3 = some r) ∧ Aside0 (kq ≤ k2) ∧ Aside0 (Kd.R Kd.string 9 w' w.heap.size (fun _ => True) v3 x3_3) ∧ Aside0 (w'.heap[gb197]? = some (.cells #[(.slice A0_0 l0_0.length c0_0), (.slice A0_1 l0_1.length c0_1), (.slice A0_2 l0_2.length c0_2)] 26 (0, 0))) ∧ Aside0 (Below w.heap.size w w'))
       case atStart => exact ⟨(x3_2), (0), (bq78), H', ⟨Nat.le_refl _⟩, ⟨bq72⟩, ⟨by (with_reducible repeat (first | refine blk_drewN ?_ _ | refine blk_drew ?_ | refine blk_alloc ?_ _)); exact BK197.out⟩, ⟨bq39⟩⟩
       case round =>
        clear H' c30b0 hcz41_0 hcz41_1 hcz41_2 hfz41_0 hfz41_1 hfz41_2
        obtain ⟨x3_3, x67_3, rfl, HA, HK3, HO_3, BK197, HB⟩ := hrel
        cases gk with
        | zero => exact absurd HA.out (by simp [ir_Lines.l3])
        | succ k3 =>
         have H := HA.out
         clear HA
         simp only [ir_Lines.l3] at H
         by_cases c42 : x67_3 < (l0_2.length : Int)
         ·rw [if_pos c42] at H
          have c42b0 := decide_eq_true c42
          clear c42
          by_cases c43 : 0 ≤ x67_3
          ·rw [if_pos c43] at H
           have c43b0 := decide_eq_true c43
           clear c43
           by_cases c44 : x67_3 < (l0_2.length : Int)
           ·rw [if_pos c44] at H
            have c44b0 := decide_eq_true c44
            clear c44
            replace H := Option.bind_eq_some_iff.mp H
            obtain ⟨t219, A450, H⟩ := H
            (try dsimp only at H)
            have A45 := Aside0.mk A450
            clear A450
            by_cases c46 : x3_3.length + t219.length < 8796093022208
            ·rw [if_pos c46] at H
             have LMc46 := Aside0.mk c46
             clear c46
             obtain ⟨y222, hy222⟩ : ∃ y_ : List ByteArray, y_ = (x3_3 ++ t219) := ⟨_, rfl⟩
             replace H : (ir_Lines.l3 k3 y222 l0_2 (l0_2.length : Int) (wrap64 (x67_3 + 1))) = some r := by first | (rw [hy222]; with_reducible exact H) | (have H2_ := (Option.bind_some _ _).symm.trans H; rw [hy222]; with_reducible exact H2_) | (have H2_ := (Option.bind_some _ _).symm.trans H; with_reducible exact H2_) | with_reducible exact H | (rw [hy222]; exact H) | exact H
             have Ny222 := Aside0.mk hy222
             clear hy222
             have H' := Aside0.mk H
             clear H
             have p217 : 0 ≤ (x67_3 : Int) := of_decide_eq_true (bq77)
             have q217 : x67_3 < (l0_2.length : Int) := of_decide_eq_true (bq77)
             obtain ⟨ad217, A217_1, c217_1, A217_3, c217_3, A217_4, c217_4, A217_5, c217_5, e217, hx217_0, hx217_1, hx217_2, hx217_3, hx217_4, hx217_5, hl217_1, hi217_1, hl217_3, hi217_3, hl217_4, hi217_4, hl217_5, hi217_5⟩ := at_T40 HR0_2.out x67_3 p217 q217
             cases e217
             replace hx217_0 := (HB.out.cell (World.block_lt_of_cell? w _ hx217_0)).trans hx217_0
             replace hx217_1 := (HB.out.cell (World.block_lt_of_cell? w _ hx217_1)).trans hx217_1
             replace hx217_2 := (HB.out.cell (World.block_lt_of_cell? w _ hx217_2)).trans hx217_2
             replace hx217_3 := (HB.out.cell (World.block_lt_of_cell? w _ hx217_3)).trans hx217_3
             replace hx217_4 := (HB.out.cell (World.block_lt_of_cell? w _ hx217_4)).trans hx217_4
             replace hx217_5 := (HB.out.cell (World.block_lt_of_cell? w _ hx217_5)).trans hx217_5
             have HR217_1 := Aside0.mk hi217_1
             have HC217_1 := Aside0.mk hl217_1
             clear hi217_1 hl217_1
             have HR217_3 := Aside0.mk hi217_3
             have HC217_3 := Aside0.mk hl217_3
             clear hi217_3 hl217_3
             have HR217_4 := Aside0.mk hi217_4
             have HC217_4 := Aside0.mk hl217_4
             clear hi217_4 hl217_4
             have HR217_5 := Aside0.mk hi217_5
             have HC217_5 := Aside0.mk hl217_5
             clear hi217_5 hl217_5
             replace p217 := eq_true p217
             replace q217 := eq_true q217
             go_wp2_with (first | ((with_reducible refine gate_dst (N := 12) rfl ?_); refine box_event ?hg (N := 12) ?hd (cs := #[.string (⟨#[]⟩ : ByteArray), .slice none 0 0, .string (⟨#[]⟩ : ByteArray), .slice none 0 0, .slice none 0 0, .slice none 0 0]) (t := 40) ?hr ?_; (case hd => rfl); (case hg => rfl); (case hr => first | (go_simp; done) | (go_simp; rfl)); intro gb218 hg w47 hbox hb; have n0_ := Aside0.mk (Kd.R_below (bq72) hb); have n1_ := Aside0.mk (blkB BK197.out hb); have n2_ := Aside0.mk (below_step (bq39) hb); have n3_ := Aside0.mk (hbox); have n4_ := Aside0.mk ((bq17 : w.heap.size ≤ gb218)); have n5_ := Aside0.mk ((bq17 : w.heap.size ≤ gb218)); have n6_ := Aside0.mk ((bq79 : gb197 ≠ gb218)); have n7_ := Aside0.mk ((bq80 : gb218 ≠ gb197)); clear HO_3 BK197 HB; have HO_3 := n0_; have BK197 := n1_; have HB := n2_; have BK218 := n3_; have GW218 := n4_; have GE218 := n5_; have NB197_218 := n6_; have NB218_197 := n7_; clear n0_ n1_ n2_ n3_ n4_ n5_ n6_ n7_ hb hbox hg; have hnb48 := NB218_197.out; have hnc48 := NB197_218.out; obtain ⟨hcz49_0, hcz49_1, hcz49_2, hcz49_3, hcz49_4, hcz49_5, hfz49_0, hfz49_1, hfz49_2, hfz49_3, hfz49_4, hfz49_5⟩ := bk6 BK218.out) | ((with_reducible refine gate_callee (f := 30) rfl ?_); refine goesL_ (some 73) rfl rfl Tryd.func30 (by kernel_rfl) rfl #[.agg #[.string ((rd_T40 l0_2 x67_3).f0), .slice A217_1 ((rd_T40 l0_2 x67_3).f1).length c217_1, .string ((rd_T40 l0_2 x67_3).f2), .slice A217_3 ((rd_T40 l0_2 x67_3).f3).length c217_3, .slice A217_4 ((rd_T40 l0_2 x67_3).f4).length c217_4, .slice A217_5 ((rd_T40 l0_2 x67_3).f5).length c217_5]] rfl (bq48) ?_; (with_reducible refine (ir_function.calls k3 ((rd_T40 l0_2 x67_3).f0) _ _ ((rd_T40 l0_2 x67_3).f1) ((rd_T40 l0_2 x67_3).f2) _ _ ((rd_T40 l0_2 x67_3).f3) _ _ ((rd_T40 l0_2 x67_3).f4) _ _ ((rd_T40 l0_2 x67_3).f5) t219 _ ?side1 ?side2 ?side3 ?side4 ?side5 ?side6 ?side7 ?side8 A45.out).mono ?_); (case side1 => exact Kd.C_below HR217_1.out (bq30)); (case side2 => exact HC217_1.out); (case side3 => exact Kd.C_below HR217_3.out (bq30)); (case side4 => exact HC217_3.out); (case side5 => exact Kd.C_below HR217_4.out (bq30)); (case side6 => exact HC217_4.out); (case side7 => exact Kd.C_below HR217_5.out (bq30)); (case side8 => exact HC217_5.out); rintro e w50 ⟨v220, rfl, ho0, hb⟩; refine ⟨_, rfl, ?_⟩; have n0_ := Aside0.mk (Kd.R_elder' (bq0) (Kd.R_base ho0) hb); have n1_ := Aside0.mk (Kd.R_lower (Kd.R_new' ho0 (Kd.R_lt (bq0))) (below_size (bq30))); have n2_ := Aside0.mk (blk_below (g := gb197) (o := .cells #[.slice A0_0 l0_0.length c0_0, .slice A0_1 l0_1.length c0_1, .slice (some ad217) l0_2.length c0_2] 26 (0, 0)) (by (with_reducible repeat (first | refine blk_drewN ?_ _ | refine blk_drew ?_ | refine blk_alloc ?_ _)); refine blk_far ?_ NB197_218.out _; (with_reducible repeat (first | refine blk_drewN ?_ _ | refine blk_drew ?_ | refine blk_alloc ?_ _)); refine blk_far ?_ NB197_218.out _; (with_reducible repeat (first | refine blk_drewN ?_ _ | refine blk_drew ?_ | refine blk_alloc ?_ _)); refine blk_far ?_ NB197_218.out _; (with_reducible repeat (first | refine blk_drewN ?_ _ | refine blk_drew ?_ | refine blk_alloc ?_ _)); refine blk_far ?_ NB197_218.out _; (with_reducible repeat (first | refine blk_drewN ?_ _ | refine blk_drew ?_ | refine blk_alloc ?_ _)); refine blk_far ?_ NB197_218.out _; (with_reducible repeat (first | refine blk_drewN ?_ _ | refine blk_drew ?_ | refine blk_alloc ?_ _)); refine blk_far ?_ NB197_218.out _; (with_reducible repeat (first | refine blk_drewN ?_ _ | refine blk_drew ?_ | refine blk_alloc ?_ _)); exact BK197.out) hb); have n3_ := Aside0.mk (blk_below (g := gb218) (o := .cells #[.string ((rd_T40 l0_2 x67_3).f0), .slice A217_1 ((rd_T40 l0_2 x67_3).f1).length c217_1, .string ((rd_T40 l0_2 x67_3).f2), .slice A217_3 ((rd_T40 l0_2 x67_3).f3).length c217_3, .slice A217_4 ((rd_T40 l0_2 x67_3).f4).length c217_4, .slice A217_5 ((rd_T40 l0_2 x67_3).f5).length c217_5] 40 (0, 0)) (by (with_reducible repeat (first | refine blk_drewN ?_ _ | refine blk_drew ?_ | refine blk_alloc ?_ _)); refine blk_put (cs := #[.string ((rd_T40 l0_2 x67_3).f0), .slice A217_1 ((rd_T40 l0_2 x67_3).f1).length c217_1, .string ((rd_T40 l0_2 x67_3).f2), .slice A217_3 ((rd_T40 l0_2 x67_3).f3).length c217_3, .slice A217_4 ((rd_T40 l0_2 x67_3).f4).length c217_4, .slice none 0 0]) ?_ 5 _ rfl; (with_reducible repeat (first | refine blk_drewN ?_ _ | refine blk_drew ?_ | refine blk_alloc ?_ _)); refine blk_put (cs := #[.string ((rd_T40 l0_2 x67_3).f0), .slice A217_1 ((rd_T40 l0_2 x67_3).f1).length c217_1, .string ((rd_T40 l0_2 x67_3).f2), .slice A217_3 ((rd_T40 l0_2 x67_3).f3).length c217_3, .slice none 0 0, .slice none 0 0]) ?_ 4 _ rfl; (with_reducible repeat (first | refine blk_drewN ?_ _ | refine blk_drew ?_ | refine blk_alloc ?_ _)); refine blk_put (cs := #[.string ((rd_T40 l0_2 x67_3).f0), .slice A217_1 ((rd_T40 l0_2 x67_3).f1).length c217_1, .string ((rd_T40 l0_2 x67_3).f2), .slice none 0 0, .slice none 0 0, .slice none 0 0]) ?_ 3 _ rfl; (with_reducible repeat (first | refine blk_drewN ?_ _ | refine blk_drew ?_ | refine blk_alloc ?_ _)); refine blk_put (cs := #[.string ((rd_T40 l0_2 x67_3).f0), .slice A217_1 ((rd_T40 l0_2 x67_3).f1).length c217_1, .string (⟨#[]⟩ : ByteArray), .slice none 0 0, .slice none 0 0, .slice none 0 0]) ?_ 2 _ rfl; (with_reducible repeat (first | refine blk_drewN ?_ _ | refine blk_drew ?_ | refine blk_alloc ?_ _)); refine blk_put (cs := #[.string ((rd_T40 l0_2 x67_3).f0), .slice none 0 0, .string (⟨#[]⟩ : ByteArray), .slice none 0 0, .slice none 0 0, .slice none 0 0]) ?_ 1 _ rfl; (with_reducible repeat (first | refine blk_drewN ?_ _ | refine blk_drew ?_ | refine blk_alloc ?_ _)); refine blk_put (cs := #[.string (⟨#[]⟩ : ByteArray), .slice none 0 0, .string (⟨#[]⟩ : ByteArray), .slice none 0 0, .slice none 0 0, .slice none 0 0]) ?_ 0 _ rfl; (with_reducible repeat (first | refine blk_drewN ?_ _ | refine blk_drew ?_ | refine blk_alloc ?_ _)); exact BK218.out) hb); have n4_ := Aside0.mk (below_step (bq30) hb); clear HO_3 BK197 BK218 HB; have HO_3 := n0_; have HO221 := n1_; have BK197 := n2_; have BK218 := n3_; have HB := n4_; clear n0_ n1_ n2_ n3_ n4_ hb ho0; obtain ⟨Ao52, co52, eo52⟩ := Kd.R_slice HO221.out; subst eo52) | ((with_reducible refine gate_builtin (b := .append) (xs := #[.tmp 71, .tmp 73]) rfl ?_); at_builtin; refine Kd.R_append_rows Kd.string (w0 := w) w.heap.size rfl (.tmp 71) (.tmp 73) 31 9 (.string ⟨#[]⟩) 16 rfl Tryd.underlying31 info9 rfl (by decide) (by omega) u3 x3_3 t219 _ _ _ (fun k_ => some k_ ≠ (.slice Ao52 t219.length co52 : Value).ownBlock) (fun _ => False) rfl rfl ?aO ?aR (fun _ _ h => h) (fun _ h => h.elim) ?aF ?aB ?aS ?aL ?_; (case aR => repeat (first | exact (Kd.R_reads' HO221.out).2.2 | (with_reducible refine Kd.C_alloc ?_ _) | (with_reducible refine Kd.C_drewN ?_ _) | (with_reducible refine Kd.C_drew ?_))); (case aB => exact (bq30)); (case aF => exact (fun k_ hk => Kd.fresh' (Kd.R_lt (bq67)) k_ hk)); (case aO => exact (by (with_reducible repeat (first | apply Kd.R_alloc | apply Kd.R_drewN | apply Kd.R_drew)); exact Kd.R_mono HO_3.out (fun _ hk => hk.2))); (case aS => exact (below_size (bq30))); (case aL => have := LMc46.out; omega); intro v223 w51 ho hb hg hat; rw [← Ny222.out] at ho; have n0_ := Aside0.mk (blkG BK197.out hg (Kd.R_ne HO_3.out BK197.out (by decide))); have n1_ := Aside0.mk (blkG BK218.out hg (Kd.R_ne HO_3.out BK218.out (by decide))); have n2_ := Aside0.mk (Kd.R_after (ok := (fun _ => True)) (bq67) hg hat); have n3_ := Aside0.mk (hb); have n4_ := Aside0.mk (ho); clear BK197 BK218 HO221 HB HO_3; have BK197 := n0_; have BK218 := n1_; have HO221 := n2_; have HB := n3_; have HO224 := n4_; clear n0_ n1_ n2_ n3_ n4_ ho hb hg hat))
             go_roundg k3
             case measure => have := HK1.out; have := HK2.out; have := HK3.out; omega
             case rel => exact ⟨(y222), (wrap64 (x67_3 + 1)), (bq78), H', ⟨by have := HK1.out; have := HK2.out; have := HK3.out; omega⟩, ⟨by (with_reducible repeat (first | apply Kd.R_alloc | apply Kd.R_drewN | apply Kd.R_drew)); exact Kd.R_mono HO224.out (fun _ hk => trivial)⟩, ⟨by (with_reducible repeat (first | refine blk_drewN ?_ _ | refine blk_drew ?_ | refine blk_alloc ?_ _)); exact BK197.out⟩, ⟨bq30⟩⟩
            ·rw [if_neg c46] at H
             exact absurd H (by simp)
           ·rw [if_neg c44] at H
            exact absurd H (by simp)
          ·rw [if_neg c43] at H
           exact absurd H (by simp)
         ·rw [if_neg c42] at H
          have c42b0 := decide_eq_false c42
          clear c42
          obtain rfl := Option.some.inj H
          go_wp2
          go_ret
          exact ⟨_, by first | rfl | (simp [errW_none, errW_some] <;> rfl) | (simp [*, errW_none, errW_some] <;> rfl), bq72, bq39⟩
theorem eqA61 (d : Nat) (w : World) (x0 y0 : ByteArray) (x1 y1 : ByteArray) :
  (Op.equalIn (d + 2) 61 (.agg #[.string x0, .string x1]) (.agg #[.string y0, .string y1])).run Tryd.prog w = .ok (x0.toList == y0.toList && (x1.toList == y1.toList)) w := by
 refine eqA_of Tryd.underlying61 (by kernel_rfl) ?_
 refine eqf_cons (by rfl) (by go_simp; rfl) (by go_simp; rfl) (by go_simp) ?_
 exact eqf_last (by rfl) (by go_simp; rfl) (by go_simp; rfl) (by go_simp)
end Go.Proofs.YtkiiojgaaoaipaaDoor.Q
namespace Go.Proofs.YtkiiojgaaoaipaaDoor.Q
open Go.RowKit Go.Proofs.YtkiiojgaaoaipaaDoorW.PrintWords Go.Proofs.YtkiiojgaaoaipaaDoorW.PrintLast Go.Proofs.YtkiiojgaaoaipaaDoorW.PrintMore
attribute [local go_sem] max2_int min2_int max_two min_two max_three min_three max_four min_four   -- for this text's walks alone
set_option linter.unusedVariables false
set_option linter.unusedSimpArgs false
attribute [local go_sem high] eqA61
/-! ### api_Field_33: function 33 -/
def api_Field_33.l0 : Nat → List (S61) → List (S61) → Int → Int → Option (Bool)
 | 0, _, _, _, _ => none
 | k + 1, x0, x1, x12, x13 => if x13 < x12 then (if 0 ≤ x13 then (if x13 < (x0.length : Int) then (if x13 < (x1.length : Int) then (if (!((((rd_T61 x0 x13).f0).toList) == (((rd_T61 x1 x13).f0).toList)) || (!((((rd_T61 x0 x13).f1).toList) == (((rd_T61 x1 x13).f1).toList)))) = true then (some false) else (api_Field_33.l0 k x0 x1 x12 (wrap64 (x13 + 1)))) else (none)) else (none)) else (none)) else (some true)
def api_Field_33.f (k : Nat) (l0 : List (S61)) (l1 : List (S61)) : Option (Bool) := if (l0.length : Int) = (l1.length : Int) then (api_Field_33.l0 k l0 l1 (l0.length : Int) 0) else (some false)
theorem api_Field_33.mono_l : ∀ k, (∀ y0 y1 y2 y3, LeO (api_Field_33.l0 k y0 y1 y2 y3) (api_Field_33.l0 (k + 1) y0 y1 y2 y3))
 | 0 => fun _ _ _ _ r h => by simp [api_Field_33.l0] at h
 | k + 1 => by
  have ih0 := api_Field_33.mono_l k
  ·intro y0 y1 y2 y3
   unfold api_Field_33.l0
   repeat' first
   | (with_reducible exact ih0 _ _ _ _)
   | (with_reducible exact LeO.refl _)
   | (with_reducible refine LeO.ite ?_ ?_)
theorem api_Field_33.mono : ∀ a0 a1 k, LeO (api_Field_33.f k a0 a1) (api_Field_33.f (k + 1) a0 a1) := by
 intro a0 a1 k
 have ih0 := api_Field_33.mono_l k
 unfold api_Field_33.f
 repeat' first
   | (with_reducible exact ih0 _ _ _ _)
   | (with_reducible exact LeO.refl _)
   | (with_reducible refine LeO.ite ?_ ?_)
set_option maxHeartbeats 8000000 in
set_option maxRecDepth 100000 in
theorem api_Field_33.calls (k : Nat) (A0 : Option Addr) (c0 : Nat) (l0 : List (S61)) (A1 : Option Addr) (c1 : Nat) (l1 : List (S61)) (r : Bool) (w : World) (hr0 : Kd.C k61 w A0 l0.length l0) (hc0 : l0.length ≤ c0) (hr1 : Kd.C k61 w A1 l1.length l1) (hc1 : l1.length ≤ c1) (h : api_Field_33.f k l0 l1 = some r) :
  Calls Tryd.prog 33 #[.slice A0 l0.length c0, .slice A1 l1.length c1] w fun e w' => e = .returned (.bool r) ∧ Drawn0 w w' := by
 have hu61 := Tryd.underlying61
 have HR0 := Aside0.mk hr0
 have HC0 := Aside0.mk hc0
 clear hr0 hc0
 have HR1 := Aside0.mk hr1
 have HC1 := Aside0.mk hc1
 clear hr1 hc1
 have H : (if (l0.length : Int) = (l1.length : Int) then (api_Field_33.l0 k l0 l1 (l0.length : Int) 0) else (some false)) = some r := h
 clear h
 by_cases c3 : (l0.length : Int) = (l1.length : Int)
 ·rw [if_pos c3] at H
  have c3b0 : ((l0.length : Int) == (l1.length : Int)) = true := beq_iff_eq.mpr c3
  have c3b1 : ((l0.length : Int) != (l1.length : Int)) = false := bne_eq_false_iff_eq.mpr c3
  have c3b2 : (l0.length == l1.length) = true := by first | simpa using c3 | (simp at c3 ⊢; omega)
  clear c3
  have H' := Aside0.mk H
  clear H
  go_enter Tryd.func33, Tryd.ntmps33
  go_wp2
  repeat (go_quiet (fail); try go_wp2)
  go_loopg [13] k (fun kq v13 w' => ∃ (x13_1 : Int), v13 = .int .i64 x13_1 ∧ Aside0 (api_Field_33.l0 kq l0 l1 (l0.length : Int) x13_1 = some r) ∧ Aside0 (kq ≤ k) ∧ Drawn0 w w')
  case atStart => exact ⟨(0), (bq78), H', ⟨Nat.le_refl _⟩, by repeat (first | exact Drawn0.refl _ | apply Drawn0.step)⟩
  case round =>
   clear H' c3b0 c3b1 c3b2
   obtain ⟨x13_1, rfl, HA, HK1, ⟨m1, rfl⟩⟩ := hrel
   cases gk with
   | zero => exact absurd HA.out (by simp [api_Field_33.l0])
   | succ k1 =>
    have H := HA.out
    clear HA
    simp only [api_Field_33.l0] at H
    by_cases c4 : x13_1 < (l0.length : Int)
    ·rw [if_pos c4] at H
     have c4b0 := decide_eq_true c4
     clear c4
     by_cases c5 : 0 ≤ x13_1
     ·rw [if_pos c5] at H
      have c5b0 := decide_eq_true c5
      clear c5
      by_cases c6 : x13_1 < (l0.length : Int)
      ·rw [if_pos c6] at H
       have c6b0 := decide_eq_true c6
       clear c6
       by_cases c7 : x13_1 < (l1.length : Int)
       ·rw [if_pos c7] at H
        have c7b0 := decide_eq_true c7
        clear c7
        by_cases c8 : (!((((rd_T61 l0 x13_1).f0).toList) == (((rd_T61 l1 x13_1).f0).toList)) || (!((((rd_T61 l0 x13_1).f1).toList) == (((rd_T61 l1 x13_1).f1).toList)))) = true
        ·rw [if_pos c8] at H
         have c8b0 : (!((((rd_T61 l0 x13_1).f0).toList) == (((rd_T61 l1 x13_1).f0).toList)) || (!((((rd_T61 l0 x13_1).f1).toList) == (((rd_T61 l1 x13_1).f1).toList)))) = true := c8
         clear c8
         obtain rfl := Option.some.inj H
         have p225 : 0 ≤ (x13_1 : Int) := of_decide_eq_true (bq77)
         have q225 : x13_1 < (l0.length : Int) := of_decide_eq_true (bq77)
         obtain ⟨ad225, e225, hx225_0, hx225_1⟩ := at_T61 HR0.out x13_1 p225 q225
         cases e225
         replace p225 := eq_true p225
         replace q225 := eq_true q225
         have p226 : 0 ≤ (x13_1 : Int) := of_decide_eq_true (bq77)
         have q226 : x13_1 < (l1.length : Int) := of_decide_eq_true (bq77)
         obtain ⟨ad226, e226, hx226_0, hx226_1⟩ := at_T61 HR1.out x13_1 p226 q226
         cases e226
         replace p226 := eq_true p226
         replace q226 := eq_true q226
         go_wp2
         repeat (go_quiet (fail); try go_wp2)
         go_ret
         exact ⟨bq78, by repeat (first | exact Drawn0.refl _ | apply Drawn0.step)⟩
        ·rw [if_neg c8] at H
         have c8b0 : (!((((rd_T61 l0 x13_1).f0).toList) == (((rd_T61 l1 x13_1).f0).toList)) || (!((((rd_T61 l0 x13_1).f1).toList) == (((rd_T61 l1 x13_1).f1).toList)))) = false := by simpa using c8
         clear c8
         have H' := Aside0.mk H
         clear H
         have p225 : 0 ≤ (x13_1 : Int) := of_decide_eq_true (bq77)
         have q225 : x13_1 < (l0.length : Int) := of_decide_eq_true (bq77)
         obtain ⟨ad225, e225, hx225_0, hx225_1⟩ := at_T61 HR0.out x13_1 p225 q225
         cases e225
         replace p225 := eq_true p225
         replace q225 := eq_true q225
         have p226 : 0 ≤ (x13_1 : Int) := of_decide_eq_true (bq77)
         have q226 : x13_1 < (l1.length : Int) := of_decide_eq_true (bq77)
         obtain ⟨ad226, e226, hx226_0, hx226_1⟩ := at_T61 HR1.out x13_1 p226 q226
         cases e226
         replace p226 := eq_true p226
         replace q226 := eq_true q226
         go_wp2
         repeat (go_quiet (fail); try go_wp2)
         go_roundg k1
         case measure => have := HK1.out; omega
         case rel => exact ⟨(wrap64 (x13_1 + 1)), (bq78), H', ⟨by have := HK1.out; omega⟩, by repeat (first | exact Drawn0.refl _ | apply Drawn0.step)⟩
       ·rw [if_neg c7] at H
        exact absurd H (by simp)
      ·rw [if_neg c6] at H
       exact absurd H (by simp)
     ·rw [if_neg c5] at H
      exact absurd H (by simp)
    ·rw [if_neg c4] at H
     have c4b0 := decide_eq_false c4
     clear c4
     obtain rfl := Option.some.inj H
     go_wp2
     repeat (go_quiet (fail); try go_wp2)
     go_ret
     exact ⟨bq78, by repeat (first | exact Drawn0.refl _ | apply Drawn0.step)⟩
 ·rw [if_neg c3] at H
  have c3b0 : ((l0.length : Int) == (l1.length : Int)) = false := beq_eq_false_iff_ne.mpr c3
  have c3b1 : ((l0.length : Int) != (l1.length : Int)) = true := bne_iff_ne.mpr c3
  have c3b2 : (l0.length == l1.length) = false := by first | simpa using c3 | (simp at c3 ⊢; omega)
  obtain rfl := Option.some.inj H
  go_enter Tryd.func33, Tryd.ntmps33
  go_wp2
  repeat (go_quiet (fail); try go_wp2)
  go_ret
  exact ⟨bq78, by repeat (first | exact Drawn0.refl _ | apply Drawn0.step)⟩
end Go.Proofs.YtkiiojgaaoaipaaDoor.Q
namespace Go.Proofs.YtkiiojgaaoaipaaDoor.Q
open Go.RowKit Go.Proofs.YtkiiojgaaoaipaaDoorW.PrintWords Go.Proofs.YtkiiojgaaoaipaaDoorW.PrintLast Go.Proofs.YtkiiojgaaoaipaaDoorW.PrintMore
attribute [local go_sem] max2_int min2_int max_two min_two max_three min_three max_four min_four   -- for this text's walks alone
set_option linter.unusedVariables false
set_option linter.unusedSimpArgs false
/-! ### slices_Equal_string_string: function 51 -/
def slices_Equal_string_string.l0 : Nat → List ByteArray → List ByteArray → Int → Int → Option (Bool)
 | 0, _, _, _, _ => none
 | k + 1, x0, x1, x12, x13 => if x13 < x12 then (if 0 ≤ x13 then (if x13 < (x0.length : Int) then (if x13 < (x1.length : Int) then (if (rdOf ByteArray.empty x0 x13).toList = (rdOf ByteArray.empty x1 x13).toList then (slices_Equal_string_string.l0 k x0 x1 x12 (wrap64 (x13 + 1))) else (some false)) else (none)) else (none)) else (none)) else (some true)
def slices_Equal_string_string.f (k : Nat) (l0 : List ByteArray) (l1 : List ByteArray) : Option (Bool) := if (l0.length : Int) = (l1.length : Int) then (slices_Equal_string_string.l0 k l0 l1 (l0.length : Int) 0) else (some false)
theorem slices_Equal_string_string.mono_l : ∀ k, (∀ y0 y1 y2 y3, LeO (slices_Equal_string_string.l0 k y0 y1 y2 y3) (slices_Equal_string_string.l0 (k + 1) y0 y1 y2 y3))
 | 0 => fun _ _ _ _ r h => by simp [slices_Equal_string_string.l0] at h
 | k + 1 => by
  have ih0 := slices_Equal_string_string.mono_l k
  ·intro y0 y1 y2 y3
   unfold slices_Equal_string_string.l0
   repeat' first
   | (with_reducible exact ih0 _ _ _ _)
   | (with_reducible exact LeO.refl _)
   | (with_reducible refine LeO.ite ?_ ?_)
theorem slices_Equal_string_string.mono : ∀ a0 a1 k, LeO (slices_Equal_string_string.f k a0 a1) (slices_Equal_string_string.f (k + 1) a0 a1) := by
 intro a0 a1 k
 have ih0 := slices_Equal_string_string.mono_l k
 unfold slices_Equal_string_string.f
 repeat' first
   | (with_reducible exact ih0 _ _ _ _)
   | (with_reducible exact LeO.refl _)
   | (with_reducible refine LeO.ite ?_ ?_)
set_option maxHeartbeats 8000000 in
set_option maxRecDepth 100000 in
theorem slices_Equal_string_string.calls (k : Nat) (A0 : Option Addr) (c0 : Nat) (l0 : List ByteArray) (A1 : Option Addr) (c1 : Nat) (l1 : List ByteArray) (r : Bool) (w : World) (hr0 : Kd.C Kd.string w A0 l0.length l0) (hc0 : l0.length ≤ c0) (hr1 : Kd.C Kd.string w A1 l1.length l1) (hc1 : l1.length ≤ c1) (h : slices_Equal_string_string.f k l0 l1 = some r) :
  Calls Tryd.prog 51 #[.slice A0 l0.length c0, .slice A1 l1.length c1] w fun e w' => e = .returned (.bool r) ∧ Drawn0 w w' := by
 have HR0 := Aside0.mk hr0
 have HC0 := Aside0.mk hc0
 clear hr0 hc0
 have HR1 := Aside0.mk hr1
 have HC1 := Aside0.mk hc1
 clear hr1 hc1
 have H : (if (l0.length : Int) = (l1.length : Int) then (slices_Equal_string_string.l0 k l0 l1 (l0.length : Int) 0) else (some false)) = some r := h
 clear h
 by_cases c3 : (l0.length : Int) = (l1.length : Int)
 ·rw [if_pos c3] at H
  have c3b0 : ((l0.length : Int) == (l1.length : Int)) = true := beq_iff_eq.mpr c3
  have c3b1 : ((l0.length : Int) != (l1.length : Int)) = false := bne_eq_false_iff_eq.mpr c3
  have c3b2 : (l0.length == l1.length) = true := by first | simpa using c3 | (simp at c3 ⊢; omega)
  clear c3
  have H' := Aside0.mk H
  clear H
  go_enter Tryd.func51, Tryd.ntmps51
  go_wp2
  repeat (go_quiet (fail); try go_wp2)
  go_loopg [13] k (fun kq v13 w' => ∃ (x13_1 : Int), v13 = .int .i64 x13_1 ∧ Aside0 (slices_Equal_string_string.l0 kq l0 l1 (l0.length : Int) x13_1 = some r) ∧ Aside0 (kq ≤ k) ∧ Drawn0 w w')
  case atStart => exact ⟨(0), (bq78), H', ⟨Nat.le_refl _⟩, by repeat (first | exact Drawn0.refl _ | apply Drawn0.step)⟩
  case round =>
   clear H' c3b0 c3b1 c3b2
   obtain ⟨x13_1, rfl, HA, HK1, ⟨m1, rfl⟩⟩ := hrel
   cases gk with
   | zero => exact absurd HA.out (by simp [slices_Equal_string_string.l0])
   | succ k1 =>
    have H := HA.out
    clear HA
    simp only [slices_Equal_string_string.l0] at H
    by_cases c4 : x13_1 < (l0.length : Int)
    ·rw [if_pos c4] at H
     have c4b0 := decide_eq_true c4
     clear c4
     by_cases c5 : 0 ≤ x13_1
     ·rw [if_pos c5] at H
      have c5b0 := decide_eq_true c5
      clear c5
      by_cases c6 : x13_1 < (l0.length : Int)
      ·rw [if_pos c6] at H
       have c6b0 := decide_eq_true c6
       clear c6
       by_cases c7 : x13_1 < (l1.length : Int)
       ·rw [if_pos c7] at H
        have c7b0 := decide_eq_true c7
        clear c7
        by_cases c8 : (rdOf ByteArray.empty l0 x13_1).toList = (rdOf ByteArray.empty l1 x13_1).toList
        ·rw [if_pos c8] at H
         have c8b0 : ((rdOf ByteArray.empty l0 x13_1).toList == (rdOf ByteArray.empty l1 x13_1).toList) = true := beq_iff_eq.mpr c8
         have c8b1 : ((rdOf ByteArray.empty l0 x13_1).toList != (rdOf ByteArray.empty l1 x13_1).toList) = false := bne_eq_false_iff_eq.mpr c8
         clear c8
         have H' := Aside0.mk H
         clear H
         have p230 : 0 ≤ (x13_1 : Int) := of_decide_eq_true (bq77)
         have q230 : x13_1 < (l0.length : Int) := of_decide_eq_true (bq77)
         obtain ⟨ad230, e230, hx230_0⟩ := Kd.at_string HR0.out x13_1 p230 q230
         cases e230
         replace p230 := eq_true p230
         replace q230 := eq_true q230
         have p231 : 0 ≤ (x13_1 : Int) := of_decide_eq_true (bq77)
         have q231 : x13_1 < (l1.length : Int) := of_decide_eq_true (bq77)
         obtain ⟨ad231, e231, hx231_0⟩ := Kd.at_string HR1.out x13_1 p231 q231
         cases e231
         replace p231 := eq_true p231
         replace q231 := eq_true q231
         go_wp2
         repeat (go_quiet (fail); try go_wp2)
         go_roundg k1
         case measure => have := HK1.out; omega
         case rel => exact ⟨(wrap64 (x13_1 + 1)), (bq78), H', ⟨by have := HK1.out; omega⟩, by repeat (first | exact Drawn0.refl _ | apply Drawn0.step)⟩
        ·rw [if_neg c8] at H
         have c8b0 : ((rdOf ByteArray.empty l0 x13_1).toList == (rdOf ByteArray.empty l1 x13_1).toList) = false := beq_eq_false_iff_ne.mpr c8
         have c8b1 : ((rdOf ByteArray.empty l0 x13_1).toList != (rdOf ByteArray.empty l1 x13_1).toList) = true := bne_iff_ne.mpr c8
         obtain rfl := Option.some.inj H
         have p230 : 0 ≤ (x13_1 : Int) := of_decide_eq_true (bq77)
         have q230 : x13_1 < (l0.length : Int) := of_decide_eq_true (bq77)
         obtain ⟨ad230, e230, hx230_0⟩ := Kd.at_string HR0.out x13_1 p230 q230
         cases e230
         replace p230 := eq_true p230
         replace q230 := eq_true q230
         have p231 : 0 ≤ (x13_1 : Int) := of_decide_eq_true (bq77)
         have q231 : x13_1 < (l1.length : Int) := of_decide_eq_true (bq77)
         obtain ⟨ad231, e231, hx231_0⟩ := Kd.at_string HR1.out x13_1 p231 q231
         cases e231
         replace p231 := eq_true p231
         replace q231 := eq_true q231
         go_wp2
         repeat (go_quiet (fail); try go_wp2)
         go_ret
         exact ⟨bq78, by repeat (first | exact Drawn0.refl _ | apply Drawn0.step)⟩
       ·rw [if_neg c7] at H
        exact absurd H (by simp)
      ·rw [if_neg c6] at H
       exact absurd H (by simp)
     ·rw [if_neg c5] at H
      exact absurd H (by simp)
    ·rw [if_neg c4] at H
     have c4b0 := decide_eq_false c4
     clear c4
     obtain rfl := Option.some.inj H
     go_wp2
     repeat (go_quiet (fail); try go_wp2)
     go_ret
     exact ⟨bq78, by repeat (first | exact Drawn0.refl _ | apply Drawn0.step)⟩
 ·rw [if_neg c3] at H
  have c3b0 : ((l0.length : Int) == (l1.length : Int)) = false := beq_eq_false_iff_ne.mpr c3
  have c3b1 : ((l0.length : Int) != (l1.length : Int)) = true := bne_iff_ne.mpr c3
  have c3b2 : (l0.length == l1.length) = false := by first | simpa using c3 | (simp at c3 ⊢; omega)
  obtain rfl := Option.some.inj H
  go_enter Tryd.func51, Tryd.ntmps51
  go_wp2
  repeat (go_quiet (fail); try go_wp2)
  go_ret
  exact ⟨bq78, by repeat (first | exact Drawn0.refl _ | apply Drawn0.step)⟩
/-! ### slices_Equal_int_int: function 64 -/
def slices_Equal_int_int.l0 : Nat → List Int → List Int → Int → Int → Option (Bool)
 | 0, _, _, _, _ => none
 | k + 1, x0, x1, x12, x13 => if x13 < x12 then (if 0 ≤ x13 then (if x13 < (x0.length : Int) then (if x13 < (x1.length : Int) then (if (rd x0 x13) = (rd x1 x13) then (slices_Equal_int_int.l0 k x0 x1 x12 (wrap64 (x13 + 1))) else (some false)) else (none)) else (none)) else (none)) else (some true)
def slices_Equal_int_int.f (k : Nat) (l0 : List Int) (l1 : List Int) : Option (Bool) := if (l0.length : Int) = (l1.length : Int) then (slices_Equal_int_int.l0 k l0 l1 (l0.length : Int) 0) else (some false)
theorem slices_Equal_int_int.mono_l : ∀ k, (∀ y0 y1 y2 y3, LeO (slices_Equal_int_int.l0 k y0 y1 y2 y3) (slices_Equal_int_int.l0 (k + 1) y0 y1 y2 y3))
 | 0 => fun _ _ _ _ r h => by simp [slices_Equal_int_int.l0] at h
 | k + 1 => by
  have ih0 := slices_Equal_int_int.mono_l k
  ·intro y0 y1 y2 y3
   unfold slices_Equal_int_int.l0
   repeat' first
   | (with_reducible exact ih0 _ _ _ _)
   | (with_reducible exact LeO.refl _)
   | (with_reducible refine LeO.ite ?_ ?_)
theorem slices_Equal_int_int.mono : ∀ a0 a1 k, LeO (slices_Equal_int_int.f k a0 a1) (slices_Equal_int_int.f (k + 1) a0 a1) := by
 intro a0 a1 k
 have ih0 := slices_Equal_int_int.mono_l k
 unfold slices_Equal_int_int.f
 repeat' first
   | (with_reducible exact ih0 _ _ _ _)
   | (with_reducible exact LeO.refl _)
   | (with_reducible refine LeO.ite ?_ ?_)
set_option maxHeartbeats 8000000 in
set_option maxRecDepth 100000 in
theorem slices_Equal_int_int.calls (k : Nat) (A0 : Option Addr) (c0 : Nat) (l0 : List Int) (A1 : Option Addr) (c1 : Nat) (l1 : List Int) (r : Bool) (w : World) (hr0 : Kd.C (Kd.int .i64) w A0 l0.length l0) (hc0 : l0.length ≤ c0) (hr1 : Kd.C (Kd.int .i64) w A1 l1.length l1) (hc1 : l1.length ≤ c1) (h : slices_Equal_int_int.f k l0 l1 = some r) :
  Calls Tryd.prog 64 #[.slice A0 l0.length c0, .slice A1 l1.length c1] w fun e w' => e = .returned (.bool r) ∧ Drawn0 w w' := by
 have HR0 := Aside0.mk hr0
 have HC0 := Aside0.mk hc0
 clear hr0 hc0
 have HR1 := Aside0.mk hr1
 have HC1 := Aside0.mk hc1
 clear hr1 hc1
 have H : (if (l0.length : Int) = (l1.length : Int) then (slices_Equal_int_int.l0 k l0 l1 (l0.length : Int) 0) else (some false)) = some r := h
 clear h
 by_cases c3 : (l0.length : Int) = (l1.length : Int)
 ·rw [if_pos c3] at H
  have c3b0 : ((l0.length : Int) == (l1.length : Int)) = true := beq_iff_eq.mpr c3
  have c3b1 : ((l0.length : Int) != (l1.length : Int)) = false := bne_eq_false_iff_eq.mpr c3
  have c3b2 : (l0.length == l1.length) = true := by first | simpa using c3 | (simp at c3 ⊢; omega)
  clear c3
  have H' := Aside0.mk H
  clear H
  go_enter Tryd.func64, Tryd.ntmps64
  go_wp2
  repeat (go_quiet (fail); try go_wp2)
  go_loopg [13] k (fun kq v13 w' => ∃ (x13_1 : Int), v13 = .int .i64 x13_1 ∧ Aside0 (slices_Equal_int_int.l0 kq l0 l1 (l0.length : Int) x13_1 = some r) ∧ Aside0 (kq ≤ k) ∧ Drawn0 w w')
  case atStart => exact ⟨(0), (bq78), H', ⟨Nat.le_refl _⟩, by repeat (first | exact Drawn0.refl _ | apply Drawn0.step)⟩
  case round =>
   clear H' c3b0 c3b1 c3b2
   obtain ⟨x13_1, rfl, HA, HK1, ⟨m1, rfl⟩⟩ := hrel
   cases gk with
   | zero => exact absurd HA.out (by simp [slices_Equal_int_int.l0])
   | succ k1 =>
    have H := HA.out
    clear HA
    simp only [slices_Equal_int_int.l0] at H
    by_cases c4 : x13_1 < (l0.length : Int)
    ·rw [if_pos c4] at H
     have c4b0 := decide_eq_true c4
     clear c4
     by_cases c5 : 0 ≤ x13_1
     ·rw [if_pos c5] at H
      have c5b0 := decide_eq_true c5
      clear c5
      by_cases c6 : x13_1 < (l0.length : Int)
      ·rw [if_pos c6] at H
       have c6b0 := decide_eq_true c6
       clear c6
       by_cases c7 : x13_1 < (l1.length : Int)
       ·rw [if_pos c7] at H
        have c7b0 := decide_eq_true c7
        clear c7
        by_cases c8 : (rd l0 x13_1) = (rd l1 x13_1)
        ·rw [if_pos c8] at H
         have c8b0 : ((rd l0 x13_1) == (rd l1 x13_1)) = true := beq_iff_eq.mpr c8
         have c8b1 : ((rd l0 x13_1) != (rd l1 x13_1)) = false := bne_eq_false_iff_eq.mpr c8
         clear c8
         have H' := Aside0.mk H
         clear H
         have p232 : 0 ≤ (x13_1 : Int) := of_decide_eq_true (bq77)
         have q232 : x13_1 < (l0.length : Int) := of_decide_eq_true (bq77)
         obtain ⟨ad232, e232, hx232_0⟩ := Kd.at_int HR0.out x13_1 p232 q232
         cases e232
         replace p232 := eq_true p232
         replace q232 := eq_true q232
         have p233 : 0 ≤ (x13_1 : Int) := of_decide_eq_true (bq77)
         have q233 : x13_1 < (l1.length : Int) := of_decide_eq_true (bq77)
         obtain ⟨ad233, e233, hx233_0⟩ := Kd.at_int HR1.out x13_1 p233 q233
         cases e233
         replace p233 := eq_true p233
         replace q233 := eq_true q233
         go_wp2
         repeat (go_quiet (fail); try go_wp2)
         go_roundg k1
         case measure => have := HK1.out; omega
         case rel => exact ⟨(wrap64 (x13_1 + 1)), (bq78), H', ⟨by have := HK1.out; omega⟩, by repeat (first | exact Drawn0.refl _ | apply Drawn0.step)⟩
        ·rw [if_neg c8] at H
         have c8b0 : ((rd l0 x13_1) == (rd l1 x13_1)) = false := beq_eq_false_iff_ne.mpr c8
         have c8b1 : ((rd l0 x13_1) != (rd l1 x13_1)) = true := bne_iff_ne.mpr c8
         obtain rfl := Option.some.inj H
         have p232 : 0 ≤ (x13_1 : Int) := of_decide_eq_true (bq77)
         have q232 : x13_1 < (l0.length : Int) := of_decide_eq_true (bq77)
         obtain ⟨ad232, e232, hx232_0⟩ := Kd.at_int HR0.out x13_1 p232 q232
         cases e232
         replace p232 := eq_true p232
         replace q232 := eq_true q232
         have p233 : 0 ≤ (x13_1 : Int) := of_decide_eq_true (bq77)
         have q233 : x13_1 < (l1.length : Int) := of_decide_eq_true (bq77)
         obtain ⟨ad233, e233, hx233_0⟩ := Kd.at_int HR1.out x13_1 p233 q233
         cases e233
         replace p233 := eq_true p233
         replace q233 := eq_true q233
         go_wp2
         repeat (go_quiet (fail); try go_wp2)
         go_ret
         exact ⟨bq78, by repeat (first | exact Drawn0.refl _ | apply Drawn0.step)⟩
       ·rw [if_neg c7] at H
        exact absurd H (by simp)
      ·rw [if_neg c6] at H
       exact absurd H (by simp)
     ·rw [if_neg c5] at H
      exact absurd H (by simp)
    ·rw [if_neg c4] at H
     have c4b0 := decide_eq_false c4
     clear c4
     obtain rfl := Option.some.inj H
     go_wp2
     repeat (go_quiet (fail); try go_wp2)
     go_ret
     exact ⟨bq78, by repeat (first | exact Drawn0.refl _ | apply Drawn0.step)⟩
 ·rw [if_neg c3] at H
  have c3b0 : ((l0.length : Int) == (l1.length : Int)) = false := beq_eq_false_iff_ne.mpr c3
  have c3b1 : ((l0.length : Int) != (l1.length : Int)) = true := bne_iff_ne.mpr c3
  have c3b2 : (l0.length == l1.length) = false := by first | simpa using c3 | (simp at c3 ⊢; omega)
  obtain rfl := Option.some.inj H
  go_enter Tryd.func64, Tryd.ntmps64
  go_wp2
  repeat (go_quiet (fail); try go_wp2)
  go_ret
  exact ⟨bq78, by repeat (first | exact Drawn0.refl _ | apply Drawn0.step)⟩
end Go.Proofs.YtkiiojgaaoaipaaDoor.Q
