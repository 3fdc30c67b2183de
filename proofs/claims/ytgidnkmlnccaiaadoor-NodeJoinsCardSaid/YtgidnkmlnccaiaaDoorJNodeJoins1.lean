/- What the row of NodeJoins rests on, part 1: contracts of the functions that it reaches, and the plain law. -/
import Derived.Test.YtgidnkmlnccaiaaDoorJNodeJoins0
namespace Go.Proofs.YtgidnkmlnccaiaaDoor.Q
open Go.RowKit Go.Proofs.YtgidnkmlnccaiaaDoorW.PrintWords Go.Proofs.YtgidnkmlnccaiaaDoorW.PrintLast Go.Proofs.YtgidnkmlnccaiaaDoorW.PrintMore
attribute [local go_sem] max2_int min2_int max_two min_two max_three min_three max_four min_four   -- for this text's walks alone
set_option linter.unusedVariables false
set_option linter.unusedSimpArgs false
/-! ### node_Text: function 13 -/
mutual
def node_Text.j0 : Nat → Bool → Int → Int → ByteArray → Option (ByteArray)
 | 0, _, _, _, _ => none
 | k + 1, x11, x178000, x178001, x178002 => if x11 = true then (some (⟨#[]⟩ : ByteArray)) else ((some (([(⟨#[]⟩ : ByteArray), (⟨#[115, 105, 116, 101]⟩ : ByteArray), (⟨#[111, 117, 116, 101, 114]⟩ : ByteArray), (⟨#[99, 97, 108, 108, 101, 101]⟩ : ByteArray), (⟨#[101, 118, 101, 114, 121]⟩ : ByteArray)] : List ByteArray) : List ByteArray)).bind fun y178 => (if 0 ≤ x178000 then (if x178000 < (y178.length : Int) then ((some (([rdOf ByteArray.empty y178 x178000] : List ByteArray) : List ByteArray)).bind fun y182 => (if x178000 = 1 then (node_Text.j1 k y182 true x178000 x178001 x178002) else (node_Text.j1 k y182 (x178000 == 3) x178000 x178001 x178002))) else (none)) else (none)))
def node_Text.j1 : Nat → List ByteArray → Bool → Int → Int → ByteArray → Option (ByteArray)
 | 0, _, _, _, _, _ => none
 | k + 1, x3, x25, x178000, x178001, x178002 => if x25 = true then ((strconv_Itoa_36.f x178001).bind fun t185 => (if x3.length < 8796093022208 then ((some (x3 ++ [t185] : List ByteArray)).bind fun y186 => (if y186.length < 8796093022208 then ((strings_Join.f (y186 ++ [x178002]) (⟨#[32]⟩ : ByteArray)).bind fun t192 => (some t192)) else (none))) else (none))) else (if x3.length < 8796093022208 then ((strings_Join.f (x3 ++ [x178002]) (⟨#[32]⟩ : ByteArray)).bind fun t196 => (some t196)) else (none))
end
def node_Text.f (k : Nat) (a0_0 : Int) (a0_1 : Int) (a0_2 : ByteArray) : Option (ByteArray) := if a0_0 < 1 then (node_Text.j0 k true a0_0 a0_1 a0_2) else (node_Text.j0 k (decide (a0_0 > 4)) a0_0 a0_1 a0_2)
theorem node_Text.mono_l : ∀ k, (∀ y0 y1 y2 y3, LeO (node_Text.j0 k y0 y1 y2 y3) (node_Text.j0 (k + 1) y0 y1 y2 y3)) ∧ (∀ y0 y1 y2 y3 y4, LeO (node_Text.j1 k y0 y1 y2 y3 y4) (node_Text.j1 (k + 1) y0 y1 y2 y3 y4))
 | 0 => ⟨fun _ _ _ _ r h => by simp [node_Text.j0] at h, fun _ _ _ _ _ r h => by simp [node_Text.j1] at h⟩
 | k + 1 => by
  obtain ⟨ih0, ih1⟩ := node_Text.mono_l k
  refine ⟨?_, ?_⟩
  ·intro y0 y1 y2 y3
   unfold node_Text.j0
   repeat' first
   | (with_reducible exact ih0 _ _ _ _)
   | (with_reducible exact ih1 _ _ _ _ _)
   | (with_reducible exact LeO.refl _)
   | (with_reducible exact LeO.none _)
   | (with_reducible refine LeO.ite ?_ ?_)
   | (with_reducible refine LeO.bind ?_ (fun _ => ?_))
   | exact ih0 _ _ _ _
   | exact ih1 _ _ _ _ _
   | exact LeO.none _
   | refine LeO.ite ?_ ?_
   | refine LeO.bind ?_ (fun _ => ?_)
  ·intro y0 y1 y2 y3 y4
   unfold node_Text.j1
   repeat' first
   | (with_reducible exact ih0 _ _ _ _)
   | (with_reducible exact ih1 _ _ _ _ _)
   | (with_reducible exact LeO.refl _)
   | (with_reducible exact LeO.none _)
   | (with_reducible refine LeO.ite ?_ ?_)
   | (with_reducible refine LeO.bind ?_ (fun _ => ?_))
   | exact ih0 _ _ _ _
   | exact ih1 _ _ _ _ _
   | exact LeO.none _
   | refine LeO.ite ?_ ?_
   | refine LeO.bind ?_ (fun _ => ?_)
theorem node_Text.mono : ∀ a0 a1 a2 k, LeO (node_Text.f k a0 a1 a2) (node_Text.f (k + 1) a0 a1 a2) := by
 intro a0 a1 a2 k
 obtain ⟨ih0, ih1⟩ := node_Text.mono_l k
 unfold node_Text.f
 repeat' first
   | (with_reducible exact ih0 _ _ _ _)
   | (with_reducible exact ih1 _ _ _ _ _)
   | (with_reducible exact LeO.refl _)
   | (with_reducible exact LeO.none _)
   | (with_reducible refine LeO.ite ?_ ?_)
   | (with_reducible refine LeO.bind ?_ (fun _ => ?_))
   | exact ih0 _ _ _ _
   | exact ih1 _ _ _ _ _
   | exact LeO.none _
   | refine LeO.ite ?_ ?_
   | refine LeO.bind ?_ (fun _ => ?_)
set_option maxHeartbeats 8000000 in
set_option maxRecDepth 100000 in
theorem node_Text.calls (k : Nat) (a0_0 : Int) (a0_1 : Int) (a0_2 : ByteArray) (r : ByteArray) (w : World) (h : node_Text.f k a0_0 a0_1 a0_2 = some r) (hG : Glob w := by first | assumption | (refine Glob.below (by assumption) ?_; repeat (first | with_reducible exact (Aside0.out (by assumption)) | (refine below_set ?_ (Aside0.out (by assumption))) | (with_reducible first | apply below_alloc | apply pw_below_drewN | apply below_drew1) | exact (Aside0.out (by assumption))))) :
  Calls Tryd.prog 13 #[.agg #[.int .i64 a0_0, .int .i64 a0_1, .string a0_2]] w fun e w' => e = .returned (.string r) ∧ Below w.heap.size w w' := by
 have hu24 := Tryd.underlying24
 have HB := Aside0.mk (Below.refl w.heap.size w)
 have H : (if a0_0 < 1 then (node_Text.j0 k true a0_0 a0_1 a0_2) else (node_Text.j0 k (decide (a0_0 > 4)) a0_0 a0_1 a0_2)) = some r := h
 clear h
 have HC2 := Aside0.mk H
 clear H
 go_enter Tryd.func13, Tryd.ntmps13
 go_upto_region 1 with (first | ((with_reducible refine gate_dst (N := 1) rfl ?_); refine box_event ?hg (N := 1) ?hd (cs := #[.int .i64 a0_0, .int .i64 a0_1, .string a0_2]) (t := 24) ?hr ?_; (case hd => rfl); (case hg => rfl); (case hr => first | (go_simp; done) | (go_simp; rfl)); intro gb177 hg w3 hbox hb; have n0_ := Aside0.mk (below_step (by repeat (first | (with_reducible first | exact HB.out | apply below_alloc | apply pw_below_drewN | apply below_drew1) | exact HB.out)) hb); have n1_ := Aside0.mk (hbox); have n2_ := Aside0.mk ((by rw [hg]; exact (below_size (by repeat (first | (with_reducible first | exact HB.out | apply below_alloc | apply pw_below_drewN | apply below_drew1) | exact HB.out))) : w.heap.size ≤ gb177)); have n3_ := Aside0.mk ((by rw [hg]; exact (below_size (by repeat (first | (with_reducible first | exact HB.out | apply below_alloc | apply pw_below_drewN | apply below_drew1) | exact HB.out))) : w.heap.size ≤ gb177)); clear HB; have HB := n0_; have BK177 := n1_; have GW177 := n2_; have GE177 := n3_; clear n0_ n1_ n2_ n3_; clear hb hbox hg))
 (try simp only [Act.put, List.setIfInBounds_toArray, List.set_cons_zero, List.set_cons_succ])
 go_cut [11] (fun v11 wc => ∃ (kq : Nat) (x11_1 : Bool), v11 = .bool x11_1 ∧ Aside0 (node_Text.j0 kq x11_1 a0_0 a0_1 a0_2 = some r) ∧ Aside0 (kq ≤ k) ∧ Aside0 (wc.heap[gb177]? = some (.cells #[.int .i64 a0_0, .int .i64 a0_1, .string a0_2] 24 (0, 0))) ∧ Aside0 (Below w.heap.size w wc))
 case first =>
  have H := HC2.out
  clear HC2
  by_cases c4 : a0_0 < 1
  ·rw [if_pos c4] at H
   have c4b0 : decide (a0_0 < 1) = true := decide_eq_true c4
   clear c4
   (first | rw [c4b0] | rw [c4b1] | rw [c4b4] | (simp only [i64_w, i32_w]; rw [c4b0]) | skip)
   have H' := Aside0.mk H
   clear H
   have hcz5_0 : w3.cell? ⟨gb177, 0, none⟩ = some (.int .i64 a0_0) := (blk_cell BK177.out 0).trans rfl
   have hcz5_1 : w3.cell? ⟨gb177, 1, none⟩ = some (.int .i64 a0_1) := (blk_cell BK177.out 1).trans rfl
   have hcz5_2 : w3.cell? ⟨gb177, 2, none⟩ = some (.string a0_2) := (blk_cell BK177.out 2).trans rfl
   have hfz5_0 := blk_frozen BK177.out 0
   have hfz5_1 := blk_frozen BK177.out 1
   have hfz5_2 := blk_frozen BK177.out 2
   go_wp2
   go_meet
   case rel => exact ⟨_, (true), (by first | rfl | (simp; done) | (simp [*]; done)), H', ⟨by first | omega | exact Nat.le_refl _⟩, ⟨by (with_reducible repeat (first | refine blk_drewN ?_ _ | refine blk_drew ?_ | refine blk_alloc ?_ _)); exact BK177.out⟩, ⟨by repeat (first | (with_reducible first | exact HB.out | apply below_alloc | apply pw_below_drewN | apply below_drew1 | refine below_set ?_ GE177.out) | exact HB.out)⟩⟩
  ·rw [if_neg c4] at H
   have c4b0 : decide (a0_0 < 1) = false := decide_eq_false c4
   clear c4
   (first | rw [c4b0] | rw [c4b1] | rw [c4b4] | (simp only [i64_w, i32_w]; rw [c4b0]) | skip)
   have H' := Aside0.mk H
   clear H
   have hcz6_0 : w3.cell? ⟨gb177, 0, none⟩ = some (.int .i64 a0_0) := (blk_cell BK177.out 0).trans rfl
   have hcz6_1 : w3.cell? ⟨gb177, 1, none⟩ = some (.int .i64 a0_1) := (blk_cell BK177.out 1).trans rfl
   have hcz6_2 : w3.cell? ⟨gb177, 2, none⟩ = some (.string a0_2) := (blk_cell BK177.out 2).trans rfl
   have hfz6_0 := blk_frozen BK177.out 0
   have hfz6_1 := blk_frozen BK177.out 1
   have hfz6_2 := blk_frozen BK177.out 2
   go_wp2
   go_meet
   case rel => exact ⟨_, (decide (a0_0 > 4)), (by first | rfl | (simp; done) | (simp [*]; done)), H', ⟨by first | omega | exact Nat.le_refl _⟩, ⟨by (with_reducible repeat (first | refine blk_drewN ?_ _ | refine blk_drew ?_ | refine blk_alloc ?_ _)); exact BK177.out⟩, ⟨by repeat (first | (with_reducible first | exact HB.out | apply below_alloc | apply pw_below_drewN | apply below_drew1 | refine below_set ?_ GE177.out) | exact HB.out)⟩⟩
 case rest =>
  clear HC2
  try clear c1
  try clear p2
  try clear c4
  try clear c4b0
  try clear hcz5_0
  try clear hcz5_1
  try clear hcz5_2
  try clear hcz6_0
  try clear hcz6_1
  try clear hcz6_2
  try clear hfz5_0
  try clear hfz5_1
  try clear hfz5_2
  try clear hfz6_0
  try clear hfz6_1
  try clear hfz6_2
  obtain ⟨kq, x11_1, rfl, HA, HJ1, BK177, HB⟩ := hcut
  cases kq with
  | zero => exact absurd HA.out (by simp [node_Text.j0])
  | succ kj1 =>
   have H := HA.out
   clear HA
   simp only [node_Text.j0] at H
   by_cases c7 : x11_1 = true
   ·subst c7
    have H1 : (some (⟨#[]⟩ : ByteArray)) = some r := by rw [if_pos rfl] at H; exact H
    clear H
    have H := H1
    clear H1
    obtain rfl := Option.some.inj H
    go_wp2
    go_ret
    exact ⟨by first | rfl | (simp [errW_none, errW_some] <;> rfl) | (simp [*, errW_none, errW_some] <;> rfl), by repeat (first | (with_reducible first | exact HB.out | apply below_alloc | apply pw_below_drewN | apply below_drew1 | refine below_set ?_ GE177.out) | exact HB.out)⟩
   ·replace c7 := Bool.eq_false_iff.mpr c7
    subst c7
    have H1 : ((some (([(⟨#[]⟩ : ByteArray), (⟨#[115, 105, 116, 101]⟩ : ByteArray), (⟨#[111, 117, 116, 101, 114]⟩ : ByteArray), (⟨#[99, 97, 108, 108, 101, 101]⟩ : ByteArray), (⟨#[101, 118, 101, 114, 121]⟩ : ByteArray)] : List ByteArray) : List ByteArray)).bind fun y178 => (if 0 ≤ a0_0 then (if a0_0 < (y178.length : Int) then ((some (([rdOf ByteArray.empty y178 a0_0] : List ByteArray) : List ByteArray)).bind fun y182 => (if a0_0 = 1 then (node_Text.j1 kj1 y182 true a0_0 a0_1 a0_2) else (node_Text.j1 kj1 y182 (a0_0 == 3) a0_0 a0_1 a0_2))) else (none)) else (none))) = some r := by rw [if_neg (show ¬ (false = true) by decide)] at H; exact H
    clear H
    have H := H1
    clear H1
    obtain ⟨y178, hy178⟩ : ∃ y_ : List ByteArray, y_ = (([(⟨#[]⟩ : ByteArray), (⟨#[115, 105, 116, 101]⟩ : ByteArray), (⟨#[111, 117, 116, 101, 114]⟩ : ByteArray), (⟨#[99, 97, 108, 108, 101, 101]⟩ : ByteArray), (⟨#[101, 118, 101, 114, 121]⟩ : ByteArray)] : List ByteArray)) := ⟨_, rfl⟩
    replace H : (if 0 ≤ a0_0 then (if a0_0 < (y178.length : Int) then ((some (([rdOf ByteArray.empty y178 a0_0] : List ByteArray) : List ByteArray)).bind fun y182 => (if a0_0 = 1 then (node_Text.j1 kj1 y182 true a0_0 a0_1 a0_2) else (node_Text.j1 kj1 y182 (a0_0 == 3) a0_0 a0_1 a0_2))) else (none)) else (none)) = some r := by first | (rw [hy178]; with_reducible exact H) | (have H2_ := (Option.bind_some _ _).symm.trans H; rw [hy178]; with_reducible exact H2_) | (have H2_ := (Option.bind_some _ _).symm.trans H; with_reducible exact H2_) | with_reducible exact H | (rw [hy178]; exact H) | exact H
    have Ny178 := Aside0.mk hy178
    clear hy178
    by_cases c8 : 0 ≤ a0_0
    ·rw [if_pos c8] at H
     have c8b0 : decide (0 ≤ a0_0) = true := decide_eq_true c8
     clear c8
     by_cases c9 : a0_0 < (y178.length : Int)
     ·rw [if_pos c9] at H
      have c9b0 : decide (a0_0 < (y178.length : Int)) = true := decide_eq_true c9
      clear c9
      obtain ⟨y182, hy182⟩ : ∃ y_ : List ByteArray, y_ = (([rdOf ByteArray.empty y178 a0_0] : List ByteArray)) := ⟨_, rfl⟩
      replace H : (if a0_0 = 1 then (node_Text.j1 kj1 y182 true a0_0 a0_1 a0_2) else (node_Text.j1 kj1 y182 (a0_0 == 3) a0_0 a0_1 a0_2)) = some r := by first | (rw [hy182]; with_reducible exact H) | (have H2_ := (Option.bind_some _ _).symm.trans H; rw [hy182]; with_reducible exact H2_) | (have H2_ := (Option.bind_some _ _).symm.trans H; with_reducible exact H2_) | with_reducible exact H | (rw [hy182]; exact H) | exact H
      have Ny182 := Aside0.mk hy182
      clear hy182
      have HC10 := Aside0.mk H
      clear H
      go_upto_region 4 with (first | ((with_reducible refine gate_dst (N := 12) rfl ?_); refine Kd.R_lit Kd.string _ 9 ?hg (N := 12) ?hd (xs := ([(⟨#[]⟩ : ByteArray), (⟨#[115, 105, 116, 101]⟩ : ByteArray), (⟨#[111, 117, 116, 101, 114]⟩ : ByteArray), (⟨#[99, 97, 108, 108, 101, 101]⟩ : ByteArray), (⟨#[101, 118, 101, 114, 121]⟩ : ByteArray)] : List ByteArray)) (inner := [.string (⟨#[]⟩ : ByteArray), .string (⟨#[115, 105, 116, 101]⟩ : ByteArray), .string (⟨#[111, 117, 116, 101, 114]⟩ : ByteArray), .string (⟨#[99, 97, 108, 108, 101, 101]⟩ : ByteArray), .string (⟨#[101, 118, 101, 114, 121]⟩ : ByteArray)]) (ok := fun _ => True) (okp := fun _ => True) ?hr ?hp (fun _ hk => hk) trivial (Below.refl _ _) (Nat.le_refl _) (by simp) ?_; (case hd => rfl); (case hg => rfl); (case hr => first | (go_simp; done) | (go_simp; rfl)); (case hp => exact (Reps.one (show Kd.M Kd.string _ _ _ (⟨#[]⟩ : ByteArray) [.string (⟨#[]⟩ : ByteArray)] from rfl) (Reps.one (show Kd.M Kd.string _ _ _ (⟨#[115, 105, 116, 101]⟩ : ByteArray) [.string (⟨#[115, 105, 116, 101]⟩ : ByteArray)] from rfl) (Reps.one (show Kd.M Kd.string _ _ _ (⟨#[111, 117, 116, 101, 114]⟩ : ByteArray) [.string (⟨#[111, 117, 116, 101, 114]⟩ : ByteArray)] from rfl) (Reps.one (show Kd.M Kd.string _ _ _ (⟨#[99, 97, 108, 108, 101, 101]⟩ : ByteArray) [.string (⟨#[99, 97, 108, 108, 101, 101]⟩ : ByteArray)] from rfl) (Reps.one (show Kd.M Kd.string _ _ _ (⟨#[101, 118, 101, 114, 121]⟩ : ByteArray) [.string (⟨#[101, 118, 101, 114, 121]⟩ : ByteArray)] from rfl) (Reps.none _ _))))))); intro v179 w11 ho12 hb hg_ hnew_; clear hg_ hnew_; (first | rw [← Ny178.out] at ho12 | (simp only [Int.reduceToNat] at ho12; rw [← Ny178.out] at ho12)); have n0_ := Aside0.mk (Kd.R_lower ho12 (below_size (by repeat (first | (with_reducible first | exact HB.out | apply below_alloc | apply pw_below_drewN | apply below_drew1 | refine below_set ?_ GE177.out) | exact HB.out)))); have n1_ := Aside0.mk (blk_below (g := gb177) (o := .cells #[.int .i64 a0_0, .int .i64 a0_1, .string a0_2] 24 (0, 0)) (by (with_reducible repeat (first | refine blk_drewN ?_ _ | refine blk_drew ?_ | refine blk_alloc ?_ _)); exact BK177.out) hb); have n2_ := Aside0.mk (below_step (by repeat (first | (with_reducible first | exact HB.out | apply below_alloc | apply pw_below_drewN | apply below_drew1 | refine below_set ?_ GE177.out) | exact HB.out)) hb); clear BK177; clear HB; have HO180 := n0_; have BK177 := n1_; have HB := n2_; clear n0_ n1_ n2_; clear hb ho12; have hcz13_0 : w11.cell? ⟨gb177, 0, none⟩ = some (.int .i64 a0_0) := (blk_cell BK177.out 0).trans rfl; have hcz13_1 : w11.cell? ⟨gb177, 1, none⟩ = some (.int .i64 a0_1) := (blk_cell BK177.out 1).trans rfl; have hcz13_2 : w11.cell? ⟨gb177, 2, none⟩ = some (.string a0_2) := (blk_cell BK177.out 2).trans rfl; have hfz13_0 := blk_frozen BK177.out 0; have hfz13_1 := blk_frozen BK177.out 1; have hfz13_2 := blk_frozen BK177.out 2; obtain ⟨Ao14, co14, eo14⟩ := Kd.R_slice HO180.out; subst eo14; have p181 : 0 ≤ (a0_0 : Int) := of_decide_eq_true (by first | (with_reducible assumption) | assumption); have q181 : a0_0 < (y178.length : Int) := of_decide_eq_true (by first | (with_reducible assumption) | assumption); obtain ⟨ad181, e181, hx181_0⟩ := Kd.at_string (Kd.R_reads' HO180.out).2.2 a0_0 p181 q181; cases e181; replace p181 := eq_true p181; replace q181 := eq_true q181) | ((with_reducible refine gate_dst (N := 17) rfl ?_); refine Kd.R_lit Kd.string _ 9 ?hg (N := 17) ?hd (xs := ([rdOf ByteArray.empty y178 a0_0] : List ByteArray)) (inner := [.string (rdOf ByteArray.empty y178 a0_0)]) (ok := fun _ => True) (okp := fun _ => True) ?hr ?hp (fun _ hk => hk) trivial (Below.refl _ _) (Nat.le_refl _) (by simp) ?_; (case hd => rfl); (case hg => rfl); (case hr => first | (go_simp; done) | (go_simp; rfl)); (case hp => exact (Reps.one (show Kd.M Kd.string _ _ _ (rdOf ByteArray.empty y178 a0_0) [.string (rdOf ByteArray.empty y178 a0_0)] from rfl) (Reps.none _ _))); intro v183 w15 ho16 hb hg_ hnew_; clear hg_ hnew_; (first | rw [← Ny182.out] at ho16 | (simp only [Int.reduceToNat] at ho16; rw [← Ny182.out] at ho16)); have n0_ := Aside0.mk (Kd.R_elder' (by (with_reducible repeat (first | apply Kd.R_alloc | apply Kd.R_drewN | apply Kd.R_drew)); exact HO180.out) (Kd.R_base ho16) hb); have n1_ := Aside0.mk (Kd.R_lower (Kd.R_new' ho16 (Kd.R_lt (by (with_reducible repeat (first | apply Kd.R_alloc | apply Kd.R_drewN | apply Kd.R_drew)); exact HO180.out))) (below_size (by repeat (first | (with_reducible first | exact HB.out | apply below_alloc | apply pw_below_drewN | apply below_drew1 | refine below_set ?_ GE177.out) | exact HB.out)))); have n2_ := Aside0.mk (blk_below (g := gb177) (o := .cells #[.int .i64 a0_0, .int .i64 a0_1, .string a0_2] 24 (0, 0)) (by (with_reducible repeat (first | refine blk_drewN ?_ _ | refine blk_drew ?_ | refine blk_alloc ?_ _)); exact BK177.out) hb); have n3_ := Aside0.mk (below_step (by repeat (first | (with_reducible first | exact HB.out | apply below_alloc | apply pw_below_drewN | apply below_drew1 | refine below_set ?_ GE177.out) | exact HB.out)) hb); clear HO180; clear BK177; clear HB; have HO180 := n0_; have HO184 := n1_; have BK177 := n2_; have HB := n3_; clear n0_ n1_ n2_ n3_; clear hb ho16))
      (try simp only [Act.put, List.setIfInBounds_toArray, List.set_cons_zero, List.set_cons_succ])
      go_cut [25] (fun v25 wc => ∃ (kq : Nat) (x25_9 : Bool), v25 = .bool x25_9 ∧ Aside0 (node_Text.j1 kq y182 x25_9 a0_0 a0_1 a0_2 = some r) ∧ Aside0 (kq ≤ kj1) ∧ Aside0 (Kd.R Kd.string 9 wc w.heap.size (fun _ => True) v183 y182) ∧ Aside0 (wc.heap[gb177]? = some (.cells #[.int .i64 a0_0, .int .i64 a0_1, .string a0_2] 24 (0, 0))) ∧ Aside0 (Below w.heap.size w wc))
      case first =>
       have H := HC10.out
       clear HC10
       by_cases c17 : a0_0 = 1
       ·rw [if_pos c17] at H
        have c17b0 : (a0_0 == 1) = true := beq_iff_eq.mpr c17
        have c17b1 : (a0_0 != 1) = false := bne_eq_false_iff_eq.mpr c17
        clear c17
        (first | rw [c17b0] | rw [c17b1] | rw [c17b4] | (simp only [i64_w, i32_w]; rw [c17b0]) | skip)
        have H' := Aside0.mk H
        clear H
        have hcz18_0 : w15.cell? ⟨gb177, 0, none⟩ = some (.int .i64 a0_0) := (blk_cell BK177.out 0).trans rfl
        have hcz18_1 : w15.cell? ⟨gb177, 1, none⟩ = some (.int .i64 a0_1) := (blk_cell BK177.out 1).trans rfl
        have hcz18_2 : w15.cell? ⟨gb177, 2, none⟩ = some (.string a0_2) := (blk_cell BK177.out 2).trans rfl
        have hfz18_0 := blk_frozen BK177.out 0
        have hfz18_1 := blk_frozen BK177.out 1
        have hfz18_2 := blk_frozen BK177.out 2
        go_wp2
        go_meet
        case rel => exact ⟨_, (true), (by first | rfl | (simp; done) | (simp [*]; done)), H', ⟨by have := HJ1.out; first | omega | exact Nat.le_refl _⟩, ⟨by (with_reducible repeat (first | apply Kd.R_alloc | apply Kd.R_drewN | apply Kd.R_drew)); exact Kd.R_mono HO184.out (fun _ hk => trivial)⟩, ⟨by (with_reducible repeat (first | refine blk_drewN ?_ _ | refine blk_drew ?_ | refine blk_alloc ?_ _)); exact BK177.out⟩, ⟨by repeat (first | (with_reducible first | exact HB.out | apply below_alloc | apply pw_below_drewN | apply below_drew1 | refine below_set ?_ GE177.out) | exact HB.out)⟩⟩
       ·rw [if_neg c17] at H
        have c17b0 : (a0_0 == 1) = false := beq_eq_false_iff_ne.mpr c17
        have c17b1 : (a0_0 != 1) = true := bne_iff_ne.mpr c17
        (first | rw [c17b0] | rw [c17b1] | rw [c17b4] | (simp only [i64_w, i32_w]; rw [c17b0]) | skip)
        have H' := Aside0.mk H
        clear H
        have hcz19_0 : w15.cell? ⟨gb177, 0, none⟩ = some (.int .i64 a0_0) := (blk_cell BK177.out 0).trans rfl
        have hcz19_1 : w15.cell? ⟨gb177, 1, none⟩ = some (.int .i64 a0_1) := (blk_cell BK177.out 1).trans rfl
        have hcz19_2 : w15.cell? ⟨gb177, 2, none⟩ = some (.string a0_2) := (blk_cell BK177.out 2).trans rfl
        have hfz19_0 := blk_frozen BK177.out 0
        have hfz19_1 := blk_frozen BK177.out 1
        have hfz19_2 := blk_frozen BK177.out 2
        go_wp2
        go_meet
        case rel => exact ⟨_, ((a0_0 == 3)), (by first | rfl | (simp; done) | (simp [*]; done)), H', ⟨by have := HJ1.out; first | omega | exact Nat.le_refl _⟩, ⟨by (with_reducible repeat (first | apply Kd.R_alloc | apply Kd.R_drewN | apply Kd.R_drew)); exact Kd.R_mono HO184.out (fun _ hk => trivial)⟩, ⟨by (with_reducible repeat (first | refine blk_drewN ?_ _ | refine blk_drew ?_ | refine blk_alloc ?_ _)); exact BK177.out⟩, ⟨by repeat (first | (with_reducible first | exact HB.out | apply below_alloc | apply pw_below_drewN | apply below_drew1 | refine below_set ?_ GE177.out) | exact HB.out)⟩⟩
      case rest =>
       clear HC10
       try clear c1
       try clear p1
       try clear q1
       try clear hx1
       try clear p2
       try clear c4
       try clear c4b0
       try clear c7
       try clear c8
       try clear c8b0
       try clear c9
       try clear c9b0
       try clear c13
       try clear c17
       try clear c17b0
       try clear c17b1
       try clear p18
       try clear q18
       try clear hx18
       try clear hcz13_0
       try clear hcz13_1
       try clear hcz13_2
       try clear hcz18_0
       try clear hcz18_1
       try clear hcz18_2
       try clear hcz19_0
       try clear hcz19_1
       try clear hcz19_2
       try clear hcz5_0
       try clear hcz5_1
       try clear hcz5_2
       try clear hcz6_0
       try clear hcz6_1
       try clear hcz6_2
       try clear hfz13_0
       try clear hfz13_1
       try clear hfz13_2
       try clear hfz18_0
       try clear hfz18_1
       try clear hfz18_2
       try clear hfz19_0
       try clear hfz19_1
       try clear hfz19_2
       try clear hfz5_0
       try clear hfz5_1
       try clear hfz5_2
       try clear hfz6_0
       try clear hfz6_1
       try clear hfz6_2
       try clear hx181_0
       try clear p181
       try clear p2
       try clear q181
       obtain ⟨kq, x25_9, rfl, HA, HJ9, HO_3, BK177, HB⟩ := hcut
       cases kq with
       | zero => exact absurd HA.out (by simp [node_Text.j1])
       | succ kj9 =>
        have H := HA.out
        clear HA
        simp only [node_Text.j1] at H
        by_cases c20 : x25_9 = true
        ·subst c20
         have H1 : ((strconv_Itoa_36.f a0_1).bind fun t185 => (if y182.length < 8796093022208 then ((some (y182 ++ [t185] : List ByteArray)).bind fun y186 => (if y186.length < 8796093022208 then ((strings_Join.f (y186 ++ [a0_2]) (⟨#[32]⟩ : ByteArray)).bind fun t192 => (some t192)) else (none))) else (none))) = some r := by rw [if_pos rfl] at H; exact H
         clear H
         have H := H1
         clear H1
         replace H := Option.bind_eq_some_iff.mp H
         obtain ⟨t185, A210, H⟩ := H
         replace H : (if y182.length < 8796093022208 then ((some (y182 ++ [t185] : List ByteArray)).bind fun y186 => (if y186.length < 8796093022208 then ((strings_Join.f (y186 ++ [a0_2]) (⟨#[32]⟩ : ByteArray)).bind fun t192 => (some t192)) else (none))) else (none)) = some r := H
         have A21 := Aside0.mk A210
         clear A210
         by_cases c22 : y182.length < 8796093022208
         ·rw [if_pos c22] at H
          have LMc22 := Aside0.mk c22
          clear c22
          obtain ⟨y186, hy186⟩ : ∃ y_ : List ByteArray, y_ = (y182 ++ [t185]) := ⟨_, rfl⟩
          replace H : (if y186.length < 8796093022208 then ((strings_Join.f (y186 ++ [a0_2]) (⟨#[32]⟩ : ByteArray)).bind fun t192 => (some t192)) else (none)) = some r := by first | (rw [hy186]; with_reducible exact H) | (have H2_ := (Option.bind_some _ _).symm.trans H; rw [hy186]; with_reducible exact H2_) | (have H2_ := (Option.bind_some _ _).symm.trans H; with_reducible exact H2_) | with_reducible exact H | (rw [hy186]; exact H) | exact H
          have Ny186 := Aside0.mk hy186
          clear hy186
          by_cases c23 : y186.length < 8796093022208
          ·rw [if_pos c23] at H
           have LMc23 := Aside0.mk c23
           clear c23
           obtain ⟨y189, hy189⟩ : ∃ y_ : List ByteArray, y_ = (y186 ++ [a0_2]) := ⟨_, rfl⟩
           replace H : ((strings_Join.f y189 (⟨#[32]⟩ : ByteArray)).bind fun t192 => (some t192)) = some r := by first | (rw [hy189]; with_reducible exact H) | (have H2_ := (Option.bind_some _ _).symm.trans H; rw [hy189]; with_reducible exact H2_) | (have H2_ := (Option.bind_some _ _).symm.trans H; with_reducible exact H2_) | with_reducible exact H | (rw [hy189]; exact H) | exact H
           have Ny189 := Aside0.mk hy189
           clear hy189
           replace H := Option.bind_eq_some_iff.mp H
           obtain ⟨t192, A240, H⟩ := H
           replace H : (some t192) = some r := H
           have A24 := Aside0.mk A240
           clear A240
           obtain rfl := Option.some.inj H
           have hcz25_0 : wc.cell? ⟨gb177, 0, none⟩ = some (.int .i64 a0_0) := (blk_cell BK177.out 0).trans rfl
           have hcz25_1 : wc.cell? ⟨gb177, 1, none⟩ = some (.int .i64 a0_1) := (blk_cell BK177.out 1).trans rfl
           have hcz25_2 : wc.cell? ⟨gb177, 2, none⟩ = some (.string a0_2) := (blk_cell BK177.out 2).trans rfl
           have hfz25_0 := blk_frozen BK177.out 0
           have hfz25_1 := blk_frozen BK177.out 1
           have hfz25_2 := blk_frozen BK177.out 2
           go_wp2_with (first | ((with_reducible refine gate_callee (f := 36) rfl ?_); refine goesL_ (some 29) rfl rfl Tryd.func36 (by kernel_rfl) rfl #[.int .i64 a0_1] rfl (by (try simp only [List.map_toArray, List.map_cons, List.map_nil]); first | done | rfl | (simp only [List.length_drop, List.length_take]; rfl)) ?_; (with_reducible refine (strconv_Itoa_36.calls a0_1 t185 _ A21.out).mono ?_); rintro e w26 ⟨rfl, hb⟩; refine ⟨_, rfl, ?_⟩; have n0_ := Aside0.mk (Kd.R_below (by (with_reducible repeat (first | apply Kd.R_alloc | apply Kd.R_drewN | apply Kd.R_drew)); exact HO_3.out) hb); have n1_ := Aside0.mk (blk_below (g := gb177) (o := .cells #[.int .i64 a0_0, .int .i64 a0_1, .string a0_2] 24 (0, 0)) (by (with_reducible repeat (first | refine blk_drewN ?_ _ | refine blk_drew ?_ | refine blk_alloc ?_ _)); exact BK177.out) hb); have n2_ := Aside0.mk (below_step (by repeat (first | (with_reducible first | exact HB.out | apply below_alloc | apply pw_below_drewN | apply below_drew1 | refine below_set ?_ GE177.out) | exact HB.out)) hb); clear HO_3; clear BK177; clear HB; have HO_3 := n0_; have BK177 := n1_; have HB := n2_; clear n0_ n1_ n2_; (try clear hb); (try clear hb2); (try clear hk); (try clear hi)) | ((with_reducible refine gate_builtin (b := .append) (xs := #[.tmp 26, .tmp 30]) rfl ?_); at_builtin; refine Kd.R_append Kd.string (w0 := w) w.heap.size rfl (.tmp 26) (.tmp 30) 76 9 (.string ⟨#[]⟩) 16 rfl Tryd.underlying76 info9 rfl (by decide) (by omega) v183 y182 t185 [.string t185] (fun _ => True) (fun _ => False) rfl rfl ?aP (fun _ hk => hk.elim) ?aF ?aO ?aB ?aS ?aL ?_; (case aP => exact rfl); (case aB => exact (by repeat (first | (with_reducible first | exact HB.out | apply below_alloc | apply pw_below_drewN | apply below_drew1 | refine below_set ?_ GE177.out) | exact HB.out))); (case aF => exact (fun _ _ => trivial)); (case aO => exact (by (with_reducible repeat (first | apply Kd.R_alloc | apply Kd.R_drewN | apply Kd.R_drew)); exact HO_3.out)); (case aS => exact (below_size (by repeat (first | (with_reducible first | exact HB.out | apply below_alloc | apply pw_below_drewN | apply below_drew1 | refine below_set ?_ GE177.out) | exact HB.out)))); (case aL => have := LMc22.out; omega); intro v187 w27 ho hb hg hat; rw [← Ny186.out] at ho; have n0_ := Aside0.mk (blk_grown (g := gb177) (o := .cells #[.int .i64 a0_0, .int .i64 a0_1, .string a0_2] 24 (0, 0)) (by (with_reducible repeat (first | refine blk_drewN ?_ _ | refine blk_drew ?_ | refine blk_alloc ?_ _)); exact BK177.out) hg (Kd.R_ne HO_3.out BK177.out (by decide))); have n1_ := Aside0.mk (hb); have n2_ := Aside0.mk (ho); clear BK177; clear HB; clear HO_3; have BK177 := n0_; have HB := n1_; have HO188 := n2_; clear n0_ n1_ n2_; clear ho hb hg hat; have hcz28_0 : w27.cell? ⟨gb177, 0, none⟩ = some (.int .i64 a0_0) := (blk_cell BK177.out 0).trans rfl; have hcz28_1 : w27.cell? ⟨gb177, 1, none⟩ = some (.int .i64 a0_1) := (blk_cell BK177.out 1).trans rfl; have hcz28_2 : w27.cell? ⟨gb177, 2, none⟩ = some (.string a0_2) := (blk_cell BK177.out 2).trans rfl; have hfz28_0 := blk_frozen BK177.out 0; have hfz28_1 := blk_frozen BK177.out 1; have hfz28_2 := blk_frozen BK177.out 2) | ((with_reducible refine gate_builtin (b := .append) (xs := #[.tmp 32, .tmp 35]) rfl ?_); at_builtin; refine Kd.R_append Kd.string (w0 := w) w.heap.size rfl (.tmp 32) (.tmp 35) 76 9 (.string ⟨#[]⟩) 16 rfl Tryd.underlying76 info9 rfl (by decide) (by omega) v187 y186 a0_2 [.string a0_2] (fun _ => True) (fun _ => False) rfl rfl ?aP (fun _ hk => hk.elim) ?aF ?aO ?aB ?aS ?aL ?_; (case aP => exact rfl); (case aB => exact (by repeat (first | (with_reducible first | exact HB.out | apply below_alloc | apply pw_below_drewN | apply below_drew1 | refine below_set ?_ GE177.out) | exact HB.out))); (case aF => exact (fun _ _ => trivial)); (case aO => exact (by (with_reducible repeat (first | apply Kd.R_alloc | apply Kd.R_drewN | apply Kd.R_drew)); exact HO188.out)); (case aS => exact (below_size (by repeat (first | (with_reducible first | exact HB.out | apply below_alloc | apply pw_below_drewN | apply below_drew1 | refine below_set ?_ GE177.out) | exact HB.out)))); (case aL => have := LMc23.out; omega); intro v190 w29 ho hb hg hat; rw [← Ny189.out] at ho; have n0_ := Aside0.mk (blk_grown (g := gb177) (o := .cells #[.int .i64 a0_0, .int .i64 a0_1, .string a0_2] 24 (0, 0)) (by (with_reducible repeat (first | refine blk_drewN ?_ _ | refine blk_drew ?_ | refine blk_alloc ?_ _)); exact BK177.out) hg (Kd.R_ne HO188.out BK177.out (by decide))); have n1_ := Aside0.mk (hb); have n2_ := Aside0.mk (ho); clear BK177; clear HB; clear HO188; have BK177 := n0_; have HB := n1_; have HO191 := n2_; clear n0_ n1_ n2_; clear ho hb hg hat; obtain ⟨Ao30, co30, eo30⟩ := Kd.R_slice HO191.out; subst eo30) | ((with_reducible refine gate_callee (f := 37) rfl ?_); refine goesL_ (some 37) rfl rfl Tryd.func37 (by kernel_rfl) rfl #[.slice Ao30 y189.length co30, .string (⟨#[32]⟩ : ByteArray)] rfl (by (try simp only [List.map_toArray, List.map_cons, List.map_nil]); first | done | rfl | (simp only [List.length_drop, List.length_take]; rfl)) ?_; (with_reducible refine (strings_Join.calls _ _ y189 (⟨#[32]⟩ : ByteArray) t192 _ ?side1 ?side2 A24.out).mono ?_); (case side1 => repeat (first | exact (Kd.R_reads' HO191.out).2.2 | (with_reducible refine Kd.C_alloc ?_ _) | (with_reducible refine Kd.C_drewN ?_ _) | (with_reducible refine Kd.C_drew ?_))); (case side2 => exact (Kd.R_reads' HO191.out).2.1); rintro e w31 ⟨rfl, hb⟩; refine ⟨_, rfl, ?_⟩; have n0_ := Aside0.mk (Kd.R_below (by (with_reducible repeat (first | apply Kd.R_alloc | apply Kd.R_drewN | apply Kd.R_drew)); exact HO191.out) hb); have n1_ := Aside0.mk (blk_below (g := gb177) (o := .cells #[.int .i64 a0_0, .int .i64 a0_1, .string a0_2] 24 (0, 0)) (by (with_reducible repeat (first | refine blk_drewN ?_ _ | refine blk_drew ?_ | refine blk_alloc ?_ _)); exact BK177.out) hb); have n2_ := Aside0.mk (below_step (by repeat (first | (with_reducible first | exact HB.out | apply below_alloc | apply pw_below_drewN | apply below_drew1 | refine below_set ?_ GE177.out) | exact HB.out)) hb); clear HO191; clear BK177; clear HB; have HO191 := n0_; have BK177 := n1_; have HB := n2_; clear n0_ n1_ n2_; (try clear hb); (try clear hb2); (try clear hk); (try clear hi)))
           go_ret
           exact ⟨by first | rfl | (simp [errW_none, errW_some] <;> rfl) | (simp [*, errW_none, errW_some] <;> rfl), by repeat (first | (with_reducible first | exact HB.out | apply below_alloc | apply pw_below_drewN | apply below_drew1 | refine below_set ?_ GE177.out) | exact HB.out)⟩
          ·rw [if_neg c23] at H
           exact absurd H (by simp)
         ·rw [if_neg c22] at H
          exact absurd H (by simp)
        ·replace c20 := Bool.eq_false_iff.mpr c20
         subst c20
         have H1 : (if y182.length < 8796093022208 then ((strings_Join.f (y182 ++ [a0_2]) (⟨#[32]⟩ : ByteArray)).bind fun t196 => (some t196)) else (none)) = some r := by rw [if_neg (show ¬ (false = true) by decide)] at H; exact H
         clear H
         have H := H1
         clear H1
         by_cases c32 : y182.length < 8796093022208
         ·rw [if_pos c32] at H
          have LMc32 := Aside0.mk c32
          clear c32
          obtain ⟨y193, hy193⟩ : ∃ y_ : List ByteArray, y_ = (y182 ++ [a0_2]) := ⟨_, rfl⟩
          replace H : ((strings_Join.f y193 (⟨#[32]⟩ : ByteArray)).bind fun t196 => (some t196)) = some r := by first | (rw [hy193]; with_reducible exact H) | (have H2_ := (Option.bind_some _ _).symm.trans H; rw [hy193]; with_reducible exact H2_) | (have H2_ := (Option.bind_some _ _).symm.trans H; with_reducible exact H2_) | with_reducible exact H | (rw [hy193]; exact H) | exact H
          have Ny193 := Aside0.mk hy193
          clear hy193
          replace H := Option.bind_eq_some_iff.mp H
          obtain ⟨t196, A330, H⟩ := H
          replace H : (some t196) = some r := H
          have A33 := Aside0.mk A330
          clear A330
          obtain rfl := Option.some.inj H
          have hcz34_0 : wc.cell? ⟨gb177, 0, none⟩ = some (.int .i64 a0_0) := (blk_cell BK177.out 0).trans rfl
          have hcz34_1 : wc.cell? ⟨gb177, 1, none⟩ = some (.int .i64 a0_1) := (blk_cell BK177.out 1).trans rfl
          have hcz34_2 : wc.cell? ⟨gb177, 2, none⟩ = some (.string a0_2) := (blk_cell BK177.out 2).trans rfl
          have hfz34_0 := blk_frozen BK177.out 0
          have hfz34_1 := blk_frozen BK177.out 1
          have hfz34_2 := blk_frozen BK177.out 2
          go_wp2_with (first | ((with_reducible refine gate_builtin (b := .append) (xs := #[.tmp 32, .tmp 35]) rfl ?_); at_builtin; refine Kd.R_append Kd.string (w0 := w) w.heap.size rfl (.tmp 32) (.tmp 35) 76 9 (.string ⟨#[]⟩) 16 rfl Tryd.underlying76 info9 rfl (by decide) (by omega) v183 y182 a0_2 [.string a0_2] (fun _ => True) (fun _ => False) rfl rfl ?aP (fun _ hk => hk.elim) ?aF ?aO ?aB ?aS ?aL ?_; (case aP => exact rfl); (case aB => exact (by repeat (first | (with_reducible first | exact HB.out | apply below_alloc | apply pw_below_drewN | apply below_drew1 | refine below_set ?_ GE177.out) | exact HB.out))); (case aF => exact (fun _ _ => trivial)); (case aO => exact (by (with_reducible repeat (first | apply Kd.R_alloc | apply Kd.R_drewN | apply Kd.R_drew)); exact HO_3.out)); (case aS => exact (below_size (by repeat (first | (with_reducible first | exact HB.out | apply below_alloc | apply pw_below_drewN | apply below_drew1 | refine below_set ?_ GE177.out) | exact HB.out)))); (case aL => have := LMc32.out; omega); intro v194 w35 ho hb hg hat; rw [← Ny193.out] at ho; have n0_ := Aside0.mk (blk_grown (g := gb177) (o := .cells #[.int .i64 a0_0, .int .i64 a0_1, .string a0_2] 24 (0, 0)) (by (with_reducible repeat (first | refine blk_drewN ?_ _ | refine blk_drew ?_ | refine blk_alloc ?_ _)); exact BK177.out) hg (Kd.R_ne HO_3.out BK177.out (by decide))); have n1_ := Aside0.mk (hb); have n2_ := Aside0.mk (ho); clear BK177; clear HB; clear HO_3; have BK177 := n0_; have HB := n1_; have HO195 := n2_; clear n0_ n1_ n2_; clear ho hb hg hat; obtain ⟨Ao36, co36, eo36⟩ := Kd.R_slice HO195.out; subst eo36) | ((with_reducible refine gate_callee (f := 37) rfl ?_); refine goesL_ (some 37) rfl rfl Tryd.func37 (by kernel_rfl) rfl #[.slice Ao36 y193.length co36, .string (⟨#[32]⟩ : ByteArray)] rfl (by (try simp only [List.map_toArray, List.map_cons, List.map_nil]); first | done | rfl | (simp only [List.length_drop, List.length_take]; rfl)) ?_; (with_reducible refine (strings_Join.calls _ _ y193 (⟨#[32]⟩ : ByteArray) t196 _ ?side1 ?side2 A33.out).mono ?_); (case side1 => repeat (first | exact (Kd.R_reads' HO195.out).2.2 | (with_reducible refine Kd.C_alloc ?_ _) | (with_reducible refine Kd.C_drewN ?_ _) | (with_reducible refine Kd.C_drew ?_))); (case side2 => exact (Kd.R_reads' HO195.out).2.1); rintro e w37 ⟨rfl, hb⟩; refine ⟨_, rfl, ?_⟩; have n0_ := Aside0.mk (Kd.R_below (by (with_reducible repeat (first | apply Kd.R_alloc | apply Kd.R_drewN | apply Kd.R_drew)); exact HO195.out) hb); have n1_ := Aside0.mk (blk_below (g := gb177) (o := .cells #[.int .i64 a0_0, .int .i64 a0_1, .string a0_2] 24 (0, 0)) (by (with_reducible repeat (first | refine blk_drewN ?_ _ | refine blk_drew ?_ | refine blk_alloc ?_ _)); exact BK177.out) hb); have n2_ := Aside0.mk (below_step (by repeat (first | (with_reducible first | exact HB.out | apply below_alloc | apply pw_below_drewN | apply below_drew1 | refine below_set ?_ GE177.out) | exact HB.out)) hb); clear HO195; clear BK177; clear HB; have HO195 := n0_; have BK177 := n1_; have HB := n2_; clear n0_ n1_ n2_; (try clear hb); (try clear hb2); (try clear hk); (try clear hi)))
          go_ret
          exact ⟨by first | rfl | (simp [errW_none, errW_some] <;> rfl) | (simp [*, errW_none, errW_some] <;> rfl), by repeat (first | (with_reducible first | exact HB.out | apply below_alloc | apply pw_below_drewN | apply below_drew1 | refine below_set ?_ GE177.out) | exact HB.out)⟩
         ·rw [if_neg c32] at H
          exact absurd H (by simp)
     ·rw [if_neg c9] at H
      exact absurd H (by simp)
    ·rw [if_neg c8] at H
     exact absurd H (by simp)
end Go.Proofs.YtgidnkmlnccaiaaDoor.Q
/- A map to bools as a set of keys: laws for the walk; and small words on rows. -/
namespace Go.Proofs.YtgidnkmlnccaiaaDoor.Q
open Go.RowKit Go.Proofs.YtgidnkmlnccaiaaDoorW.PrintWords Go.Proofs.YtgidnkmlnccaiaaDoorW.PrintLast Go.Proofs.YtgidnkmlnccaiaaDoorW.PrintMore
set_option linter.unusedVariables false
set_option linter.unusedSimpArgs false
open Go.Maps (Keyed)
section
variable {P : Program} {k e t : TypeId} {w w1 : World} {b : Nat} {S : List Lit}
theorem plain_bool_inv {v : Value} {x : Bool} {ps : List MemPlace} (he : P.underlying e = some .bool) (h : plainElem (H := Unit) P e v = some (.lit (.bool x), ps)) : v = .bool x := by
 unfold plainElem at h
 rw [he] at h
 cases v <;> simp at h
 obtain ⟨rfl, _⟩ := h
 rfl
end
theorem lit_R {α : Type} (d : Kd α) {W : World} (base e : Nat) {xs : List α} {inner : List Value} {ok okp : Nat → Prop}
  (hrep : Reps (d.M W base okp) d.sz xs inner) (hok : ∀ k, okp k → ok k) (hfresh : ok W.heap.size) (hbase : base ≤ W.heap.size) (hm : xs.length ≤ 9223372036854775807) :
  d.R e (W.alloc (.cells inner.toArray e)) base ok (.slice (some ⟨W.heap.size, 0, none⟩) xs.length xs.length) xs := by
 refine ⟨fun k hk => ?_, inner, ?_, ?_⟩
 ·have : W.heap.size = k := by simpa [Value.ownBlock] using hk
  subst this
  exact hfresh
 ·have h2 := World.ownsRow_lit (base := base) (e := e) (size := d.sz) W inner.toArray xs.length hbase (by simpa [maxLen] using hm) (by simpa using hrep.1)
  simpa using h2
 ·refine hrep.imp_ (fun p c hp => d.M_mono (fun k hk => ⟨hok k hk.1, fun he => ?_⟩) (Kd.M_below (d.M_bound hp) (below_alloc (Below.refl _ _) _)))
  have h3 : k = W.heap.size := by simpa [Value.ownBlock] using he
  have := hk.2.2.1
  omega
theorem at_scalar {α : Type} {enc : α → Value} {h1 : ∀ x, (enc x).oneCell' = true} {w : World} {A : Option Addr} {n : Nat} {xs : List α} (h : Kd.C (Kd.scalar enc h1) w A n xs) (z : α) (k : Nat) (hk : k < n) : ∃ ad, A = some ad ∧ w.cell? (ad.add k) = some (enc (xs.getD k z)) := by
 obtain ⟨e1, e2, h⟩ := h
 obtain ⟨ad, ea, h⟩ := h (by omega)
 have hl : k < xs.length := by omega
 obtain ⟨c, hc, hK, hcell⟩ := h k _ (List.getElem?_eq_getElem hl)
 refine ⟨ad, ea, ?_⟩
 have hK' : c = [enc xs[k]] := hK
 subst hK'
 have := hcell 0 _ rfl
 have e : k * (Kd.scalar enc h1).sz + 0 = k := by show k * 1 + 0 = k; omega
 rw [e] at this
 rw [this, getD_at xs z hl]
theorem at_int {q : IntKind} {w : World} {A : Option Addr} {n : Nat} {xs : List Int} (h : Kd.C (Kd.int q) w A n xs) (k : Nat) (hk : k < n) : ∃ ad, A = some ad ∧ w.cell? (ad.add k) = some (.int q (xs.getD k 0)) := at_scalar (enc := Value.int q) h _ k hk
abbrev Nd := S24
def ndV (x : Nd) : Value := .agg #[.int .i64 x.f0, .int .i64 x.f1, .string x.f2]
/-- A node whose numbers are numbers, and whose text is a text. -/
def ndW (x : Nd) : Prop := (Lit.int .i64 x.f0).wf = true ∧ (Lit.int .i64 x.f1).wf = true ∧ x.f2.size ≤ maxLen
/-- Its key. -/
def nl (x : Nd) : Lit := .string (keyBytes [.int .i64 x.f0, .int .i64 x.f1, .string x.f2.data.toList])
theorem nd_deep : Tryd.prog.keyTypeAt 2 24 = true := by kernel_rfl
theorem nd_tiled : Tryd.prog.tiled 2 24 = true := by kernel_rfl
theorem nd_law : Keyed Tryd.prog 24 := Keyed.of_law (deep_law (m := 2) (by omega) nd_deep nd_tiled (by rw [Tryd.underlying24]))
theorem types_pos : decide (0 < Tryd.prog.types.size) = true := by kernel_rfl
theorem types_size : ∃ d, Tryd.prog.types.size = d + 1 := ⟨Tryd.prog.types.size - 1, by have := of_decide_eq_true types_pos; omega⟩
theorem kl_int (d : Nat) (n : Int) (h : (Lit.int .i64 n).wf = true) : Tryd.prog.keyLits (d + 1) 3 [.int .i64 n] = some [.int .i64 n] := by
 unfold Program.keyLits
 rw [Tryd.underlying3]
 simp [h]
theorem kl_str (d : Nat) (s : ByteArray) (h : s.size ≤ maxLen) : Tryd.prog.keyLits (d + 1) 9 [.string s] = some [.string s.data.toList] := by
 unfold Program.keyLits
 rw [Tryd.underlying9]
 simp [h]
theorem cells_nd : Tryd.prog.cellsOf 24 = 3 := by kernel_rfl
theorem cells_int : Tryd.prog.cellsOf 3 = 1 := by kernel_rfl
theorem cells_str : Tryd.prog.cellsOf 9 = 1 := by kernel_rfl
theorem nd_keyType : Tryd.prog.keyType 24 = true := by kernel_rfl
theorem nd_key {x : Nd} (h : ndW x) : keyOf Tryd.prog 24 (ndV x) = some (nl x) := by
 obtain ⟨h1, h2, h3⟩ := h
 unfold ndV nl
 have hf : (Value.agg #[.int .i64 x.f0, .int .i64 x.f1, .string x.f2]).formed Tryd.prog 24 = true := by
  unfold Value.formed
  simp only [Tryd.underlying24, cells_nd]; rfl
 obtain ⟨d, hd⟩ := types_size
 have hl : Tryd.prog.keyLits (Tryd.prog.types.size + 1) 24 [.int .i64 x.f0, .int .i64 x.f1, .string x.f2] = some [.int .i64 x.f0, .int .i64 x.f1, .string x.f2.data.toList] := by
  rw [hd]
  unfold Program.keyLits
  simp only [Tryd.underlying24, cells_nd]
  simp [cells_int, cells_str, kl_int d x.f0 h1, kl_int d x.f1 h2, kl_str d x.f2 h3]
 unfold keyOf
 simp only [Tryd.underlying24, nd_keyType, hf, Bool.and_self, if_true]
 show (Tryd.prog.keyLits (Tryd.prog.types.size + 1) 24 [.int .i64 x.f0, .int .i64 x.f1, .string x.f2]).map _ = _
 rw [hl]; rfl
theorem ndV_inj {x y : Nd} (h : ndV x = ndV y) : x = y := by
 unfold ndV at h
 cases x; cases y
 simp_all
theorem nl_inj {x y : Nd} (hx : ndW x) (hy : ndW y) (h : nl x = nl y) : x = y := ndV_inj (nd_law.inj (nd_key hx) (by rw [h]; exact nd_key hy))
theorem nl_lit (x : Nd) : WideAt.IsKeyLit (nl x) := trivial
/-- The order of nodes. -/
def ltN (a b : Nd) : Bool := if a.f0 = b.f0 then (if a.f1 = b.f1 then Op.bytesLess a.f2.toList b.f2.toList else decide (a.f1 < b.f1)) else decide (a.f0 < b.f0)
def eqN (a b : Nd) : Bool := decide (a.f0 = b.f0) && decide (a.f1 = b.f1) && decide (a.f2 = b.f2)
theorem eqN_iff {a b : Nd} : eqN a b = true ↔ a = b := by
 unfold eqN
 rw [Bool.and_eq_true, Bool.and_eq_true, decide_eq_true_eq, decide_eq_true_eq, decide_eq_true_eq]
 constructor
 ·rintro ⟨⟨h1, h2⟩, h3⟩
  cases a; cases b; simp_all
 ·rintro rfl; exact ⟨⟨rfl, rfl⟩, rfl⟩
/-- A row in order, with one more. -/
def addR : List Nd → Nd → List Nd
 | [], x => [x]
 | y :: r, x => if eqN y x = true then y :: r else if ltN x y = true then x :: y :: r else y :: addR r x
theorem addR_mem (x z : Nd) : ∀ r, z ∈ addR r x ↔ z ∈ r ∨ z = x
 | [] => by simp [addR]
 | y :: r => by
  unfold addR
  by_cases h1 : eqN y x = true
  ·rw [if_pos h1]
   have := eqN_iff.mp h1
   subst this
   simp only [List.mem_cons]
   exact ⟨.inl, fun h => h.elim id .inl⟩
  ·rw [if_neg h1]
   by_cases h2 : ltN x y = true
   ·rw [if_pos h2]; simp only [List.mem_cons]; exact ⟨fun h => h.elim .inr .inl, fun h => h.elim .inr .inl⟩
   ·rw [if_neg h2, List.mem_cons, addR_mem x z r, List.mem_cons]
    exact or_assoc.symm
theorem addR_has {x : Nd} : ∀ {r : List Nd}, r.Pairwise (fun a b => ltN a b = true) → (∀ a b, ltN a b = true → ltN b a = false) → x ∈ r → addR r x = r
 | [], _, _, h => by cases h
 | y :: r, hs, ha, h => by
  unfold addR
  by_cases h1 : eqN y x = true
  ·rw [if_pos h1]
  ·rw [if_neg h1]
   have hxr : x ∈ r := by
    rcases List.mem_cons.mp h with h | h
    ·exact absurd (eqN_iff.mpr h.symm) h1
    ·exact h
   have hyx := (List.pairwise_cons.mp hs).1 x hxr
   rw [if_neg (by rw [ha _ _ hyx]; decide), addR_has (List.pairwise_cons.mp hs).2 ha hxr]
theorem addR_len {x : Nd} : ∀ {r : List Nd}, x ∉ r → (addR r x).length = r.length + 1
 | [], _ => rfl
 | y :: r, h => by
  unfold addR
  rw [List.mem_cons] at h
  rw [if_neg (fun e => h (.inl (eqN_iff.mp e).symm))]
  split
  ·rfl
  ·rw [List.length_cons, addR_len (fun e => h (.inr e)), List.length_cons]
theorem ltN_irrefl (a : Nd) : ltN a a = false := by unfold ltN; rw [if_pos rfl, if_pos rfl, bl_irrefl]
theorem ltN_asymm {a b : Nd} (h : ltN a b = true) : ltN b a = false := by
 unfold ltN at h ⊢
 by_cases h0 : a.f0 = b.f0
 ·rw [if_pos h0] at h
  rw [if_pos h0.symm]
  by_cases h1 : a.f1 = b.f1
  ·rw [if_pos h1] at h
   rw [if_pos h1.symm]
   exact bl_asymm h
  ·rw [if_neg h1] at h
   rw [if_neg (fun e => h1 e.symm)]
   have := of_decide_eq_true h
   exact decide_eq_false (by omega)
 ·rw [if_neg h0] at h
  rw [if_neg (fun e => h0 e.symm)]
  have := of_decide_eq_true h
  exact decide_eq_false (by omega)
theorem ltN_trans {a b c : Nd} (h : ltN a b = true) (k : ltN b c = true) : ltN a c = true := by
 unfold ltN at h k ⊢
 by_cases h0 : a.f0 = b.f0
 ·rw [if_pos h0] at h
  by_cases k0 : b.f0 = c.f0
  ·rw [if_pos k0] at k
   rw [if_pos (h0.trans k0)]
   by_cases h1 : a.f1 = b.f1
   ·rw [if_pos h1] at h
    by_cases k1 : b.f1 = c.f1
    ·rw [if_pos k1] at k
     rw [if_pos (h1.trans k1)]
     exact bl_trans h k
    ·rw [if_neg k1] at k
     rw [if_neg (by rw [h1]; exact k1), h1]; exact k
   ·rw [if_neg h1] at h
    have := of_decide_eq_true h
    by_cases k1 : b.f1 = c.f1
    ·rw [if_neg (by omega)]; exact decide_eq_true (by omega)
    ·rw [if_neg k1] at k
     have := of_decide_eq_true k
     rw [if_neg (by omega)]; exact decide_eq_true (by omega)
  ·rw [if_neg k0] at k
   rw [if_neg (by rw [h0]; exact k0), h0]; exact k
 ·rw [if_neg h0] at h
  have := of_decide_eq_true h
  by_cases k0 : b.f0 = c.f0
  ·rw [if_neg (by omega)]; exact decide_eq_true (by omega)
  ·rw [if_neg k0] at k
   have := of_decide_eq_true k
   rw [if_neg (by omega)]; exact decide_eq_true (by omega)
theorem ltN_total {a b : Nd} (h : ltN a b = false) (k : ltN b a = false) : a = b := by
 unfold ltN at h k
 by_cases h0 : a.f0 = b.f0
 ·rw [if_pos h0] at h
  rw [if_pos h0.symm] at k
  by_cases h1 : a.f1 = b.f1
  ·rw [if_pos h1] at h
   rw [if_pos h1.symm] at k
   have h2 := bytes_eq (bl_total h k)
   cases a; cases b; simp_all
  ·rw [if_neg h1] at h
   rw [if_neg (fun e => h1 e.symm)] at k
   have := of_decide_eq_false h; have := of_decide_eq_false k
   omega
 ·rw [if_neg h0] at h
  rw [if_neg (fun e => h0 e.symm)] at k
  have := of_decide_eq_false h; have := of_decide_eq_false k
  omega
/-- In order, each once. -/
abbrev Up (r : List Nd) : Prop := r.Pairwise (fun a b => ltN a b = true)
theorem addR_up {x : Nd} : ∀ {r : List Nd}, Up r → Up (addR r x)
 | [], _ => List.pairwise_singleton _ _
 | y :: r, h => by
  obtain ⟨h1, h2⟩ := List.pairwise_cons.mp h
  unfold addR
  by_cases e1 : eqN y x = true
  ·rw [if_pos e1]; exact h
  ·rw [if_neg e1]
   by_cases e2 : ltN x y = true
   ·rw [if_pos e2]
    refine List.pairwise_cons.mpr ⟨fun z hz => ?_, h⟩
    rcases List.mem_cons.mp hz with hz | hz
    ·rw [hz]; exact e2
    ·exact ltN_trans e2 (h1 z hz)
   ·rw [if_neg e2]
    refine List.pairwise_cons.mpr ⟨fun z hz => ?_, addR_up h2⟩
    rcases (addR_mem x z r).mp hz with hz | hz
    ·exact h1 z hz
    ·rw [hz]
     cases e3 : ltN y x
     ·exact absurd (eqN_iff.mpr (ltN_total e3 (by simpa using e2))) e1
     ·rfl
theorem Up.nodup {r : List Nd} (h : Up r) : r.Nodup := h.imp (fun {a b} hab e => by rw [e, ltN_irrefl] at hab; cases hab)
/-- Two rows in order with the same nodes are the same. -/
theorem up_ext : ∀ {r s : List Nd}, Up r → Up s → (∀ x, x ∈ r ↔ x ∈ s) → r = s
 | [], [], _, _, _ => rfl
 | [], y :: s, _, _, h => absurd ((h y).mpr (by simp)) (by simp)
 | x :: r, [], _, _, h => absurd ((h x).mp (by simp)) (by simp)
 | x :: r, y :: s, hr, hs, h => by
  obtain ⟨r1, r2⟩ := List.pairwise_cons.mp hr
  obtain ⟨s1, s2⟩ := List.pairwise_cons.mp hs
  have e : x = y := by
   rcases List.mem_cons.mp ((h x).mp (by simp)) with e | e
   ·exact e
   ·rcases List.mem_cons.mp ((h y).mpr (by simp)) with e2 | e2
    ·exact e2.symm
    ·have a1 := s1 x e
     have a2 := ltN_asymm (r1 y e2)
     rw [a1] at a2; cases a2
  subst e
  rw [up_ext r2 s2 (fun z => ?_)]
  constructor
  ·intro hz
   rcases List.mem_cons.mp ((h z).mp (List.mem_cons_of_mem _ hz)) with e | e
   ·have := r1 z hz; rw [e, ltN_irrefl] at this; cases this
   ·exact e
  ·intro hz
   rcases List.mem_cons.mp ((h z).mpr (List.mem_cons_of_mem _ hz)) with e | e
   ·have := s1 z hz; rw [e, ltN_irrefl] at this; cases this
   ·exact e
abbrev tM : TypeId := 48
/-- What a map's data say of a set. -/
structure DataR (D : DataW Unit) (r : List Nd) : Prop where
 tidy : Maps.Tidy D
 up : Up r
 wf : ∀ x ∈ r, ndW x
 has : ∀ x, ndW x → (Maps.has D (nl x) = true ↔ x ∈ r)
 keys : ∀ l, Maps.has D l = true → ∃ x ∈ r, l = nl x
 val : ∀ l z, Maps.has D l = true → D.atKey l z = .lit (.bool true)
 size : Maps.size D = r.length
theorem DataR.empty : DataR (.map []) [] := ⟨Maps.tidy_empty, List.Pairwise.nil, fun x hx => (nomatch hx), fun x _ => ⟨fun h => (nomatch h), fun h => (nomatch h)⟩, fun l h => (nomatch h), fun l z h => (nomatch h), rfl⟩
theorem DataR.put {D : DataW Unit} {r : List Nd} (h : DataR D r) {x : Nd} (hx : ndW x) : DataR (D.put (nl x) (.lit (.bool true))) (addR r x) := by
 have hm := h.tidy.isMap
 have hhas : ∀ l, Maps.has (D.put (nl x) (.lit (.bool true))) l = true ↔ (Maps.has D l = true ∨ l = nl x) := fun l => by
  by_cases e : l = nl x
  ·rw [e, Maps.has_put_same hm (nl_lit x)]; exact ⟨fun _ => .inr rfl, fun _ => rfl⟩
  ·rw [Maps.has_put_other e]; exact ⟨.inl, fun h => h.elim id (fun e2 => absurd e2 e)⟩
 refine ⟨h.tidy.put (nl_lit x) _, addR_up h.up, fun y hy => ?_, fun y hy => ?_, fun l hl => ?_, fun l z hl => ?_, ?_⟩
 ·rcases (addR_mem x y r).mp hy with hy | hy
  ·exact h.wf y hy
  ·rw [hy]; exact hx
 ·rw [hhas, addR_mem, h.has y hy]
  exact ⟨fun h => h.imp id (nl_inj hy hx), fun h => h.imp id (fun e => by rw [e])⟩
 ·rcases (hhas l).mp hl with hl | hl
  ·obtain ⟨y, hy, e⟩ := h.keys l hl
   exact ⟨y, (addR_mem x y r).mpr (.inl hy), e⟩
  ·exact ⟨x, (addR_mem x x r).mpr (.inr rfl), hl⟩
 ·by_cases e : l = nl x
  ·rw [e, Maps.atKey_put_same hm (nl_lit x)]
  ·rw [Maps.atKey_put_other e]
   exact h.val l z (((hhas l).mp hl).resolve_right e)
 ·rw [Maps.size_put h.tidy, h.size]
  by_cases hm2 : x ∈ r
  ·rw [if_pos ((h.has x hx).mpr hm2), addR_has h.up (fun a b hab => ltN_asymm hab) hm2]
  ·rw [if_neg (fun e => hm2 ((h.has x hx).mp e)), addR_len hm2]
/-- Block b is a set of nodes. -/
def SetR (w : World) (b : Nat) (r : List Nd) : Prop := ∃ D, w.ownsMap (H := Unit) Tryd.prog 24 (plainElem Tryd.prog 4) b r.length D ∧ DataR D r
theorem owns_tight {w : World} {b n : Nat} {D : DataW Unit} {k e : TypeId} (h : w.ownsMap Tryd.prog k (plainElem Tryd.prog e) b n D) : w.ownsMap Tryd.prog k (plainElem Tryd.prog e) b (Maps.size D) D := by
 obtain ⟨es, clock, hb, F, hs, hD⟩ := h
 refine ⟨es, clock, hb, F, ?_, hD⟩
 rw [hD, Maps.size_eq, length_read]
 exact Nat.le_refl _
theorem zeroNb (w : World) : (zeroValue 4).run Tryd.prog w = .ok (.bool false) w := by kernel_rfl
section
variable {w w1 : World} {b : Nat} {r : List Nd}
theorem SetR.made (w : World) : SetR (w.alloc (.map #[] 0)) w.heap.size [] := ⟨.map [], World.ownsMap_made _ _ _ _, DataR.empty⟩
theorem SetR.kept (h : SetR w b r) {row : Option Nat} (hg : w.grownBy w1 row) (hne : some b ≠ row) : SetR w1 b r := by
 obtain ⟨D, h1, h2⟩ := h
 exact ⟨D, h1.kept hg hne, h2⟩
theorem SetR.lt (h : SetR w b r) : b < w.heap.size := by obtain ⟨D, h1, h2⟩ := h; exact h1.lt
theorem SetR.below (h : SetR w b r) (hb : Below w.heap.size w w1) : SetR w1 b r := h.kept (grown_of_below hb none) (by simp)
theorem SetR.alloc (h : SetR w b r) (o : Obj) : SetR (w.alloc o) b r := h.below (below_alloc (Below.refl _ _) o)
theorem SetR.up (h : SetR w b r) : Up r := by obtain ⟨D, _, h2⟩ := h; exact h2.up
theorem SetR.wf (h : SetR w b r) : ∀ x ∈ r, ndW x := by obtain ⟨D, _, h2⟩ := h; exact h2.wf
theorem SetR.lookup (h : SetR w b r) {x : Nd} (hx : ndW x) : (Instr.lookup tM (.map (some b)) (ndV x) false).run Tryd.prog w = .ok (.bool (decB (x ∈ r))) w := by
 obtain ⟨D, h1, h2⟩ := h
 obtain ⟨v, ps, hrun, hv⟩ := h1.lookup nd_law Tryd.underlying48 (zeroNb w) (plainElem_bool Tryd.underlying4 false) (nd_key hx)
 rw [hrun]
 by_cases hm : x ∈ r
 ·rw [h2.val _ _ ((h2.has x hx).mpr hm)] at hv
  rw [plain_bool_inv Tryd.underlying4 hv, decB_true hm]
 ·rw [Maps.atKey_of_not_has (by rw [← Bool.not_eq_true, h2.has x hx]; exact hm)] at hv
  rw [plain_bool_inv Tryd.underlying4 hv, decB_false hm]
theorem SetR.len (h : SetR w b r) (ty : TypeId) : (Builtin.len_ #[tM] ty #[.map (some b)]).run Tryd.prog w = .ok (.int .i64 r.length) w := by
 obtain ⟨D, h1, h2⟩ := h
 rw [h1.len Tryd.underlying48 ty, h2.size]
theorem SetR.update_op {ops : Array Oper} {rest : List Oper} {o : Oper} {a : Act} {Q : Exit → Act → World → Prop} (h : SetR w b r)
  (hg : o.guard = none) (m x v : Operand) (hop : o.op = Op.mapUpdate tM m x v)
  (hm : a.eval m = .map (some b)) (hn : r.length < maxLen) (y : Nd) (hx : a.eval x = ndV y) (hv : a.eval v = .bool true) (hy : ndW y)
  (hK : ∀ w', SetR w' b (addR r y) → w.grownBy w' (some b) → wpList Tryd.prog ops Q rest (a.put o.dst undef) w') :
  wpList Tryd.prog ops Q (o :: rest) a w := by
 obtain ⟨D, h1, h2⟩ := h
 refine wpList_mapUpdate_own w hg m x v tM hop 24 4 nd_law Tryd.underlying48 (plainElem Tryd.prog 4) b _ D hm h1 hn (ndV y) _ (nl y) hx hv (nd_key hy) _ [] (plainElem_bool Tryd.underlying4 true) ?_
 intro w' ho hgr
 have h3 := h2.put hy
 have ho2 := owns_tight ho
 rw [h3.size] at ho2
 exact hK w' ⟨_, ho2, h3⟩ hgr
end
/-- A walk over a set: it goes on at block q; these have come. -/
def RunR (w : World) (b q : Nat) (r done : List Nd) : Prop := ∃ D left cnt, w.ranges (H := Unit) Tryd.prog 24 (plainElem Tryd.prog 4) b q r.length D left cnt ∧ DataR D r ∧ (∀ l, left l = true ↔ ∃ x ∈ r, x ∉ done ∧ l = nl x) ∧ (∀ x ∈ done, x ∈ r) ∧ done.Nodup
theorem length_le_of_subset {α : Type} [DecidableEq α] : ∀ {l r : List α}, l.Nodup → (∀ z ∈ l, z ∈ r) → l.length ≤ r.length
 | [], _, _, _ => Nat.zero_le _
 | x :: l, r, hn, hs => by
  obtain ⟨h1, h2⟩ := List.nodup_cons.mp hn
  have hx := hs x (by simp)
  have := length_le_of_subset (l := l) (r := r.erase x) h2 (fun z hz => (List.mem_erase_of_ne (fun (e : z = x) => h1 (by rw [← e]; exact hz))).mpr (hs z (List.mem_cons_of_mem _ hz)))
  rw [List.length_erase_of_mem hx] at this
  have := List.length_pos_of_mem hx
  rw [List.length_cons]; omega
section
variable {w w1 : World} {b q : Nat} {r done : List Nd}
theorem RunR.set (h : RunR w b q r done) : SetR w b r := by
 obtain ⟨D, left, cnt, h1, h2, _⟩ := h
 exact ⟨D, h1.owns, h2⟩
theorem RunR.ne (h : RunR w b q r done) : q ≠ b := by obtain ⟨D, left, cnt, h1, _⟩ := h; exact h1.ne
theorem RunR.lt (h : RunR w b q r done) : q < w.heap.size := by obtain ⟨D, left, cnt, h1, _⟩ := h; exact h1.lt
theorem RunR.kept (h : RunR w b q r done) {row : Option Nat} (hg : w.grownBy w1 row) (hb : some b ≠ row) (hq : some q ≠ row) : RunR w1 b q r done := by
 obtain ⟨D, left, cnt, h1, h2⟩ := h
 exact ⟨D, left, cnt, h1.kept hg hb hq, h2⟩
theorem RunR.below (h : RunR w b q r done) (hb : Below w.heap.size w w1) : RunR w1 b q r done := h.kept (grown_of_below hb none) (by simp) (by simp)
theorem RunR.start_op {ops : Array Oper} {rest : List Oper} {o : Oper} {a : Act} {Q : Exit → Act → World → Prop} (h : SetR w b r) (hg : o.guard = none) (m : Operand) (hop : o.op = Op.range tM m) (hm : a.eval m = .map (some b))
  (hK : ∀ w', RunR w' b w.heap.size r [] → Below w.heap.size w w' → wpList Tryd.prog ops Q rest (a.put o.dst (.pointer (some ⟨w.heap.size, 0, none⟩))) w') : wpList Tryd.prog ops Q (o :: rest) a w := by
 obtain ⟨D, h1, h2⟩ := h
 refine wpList_range_own w hg m tM hop 24 4 nd_law Tryd.underlying48 (plainElem Tryd.prog 4) b _ D hm h1 ?_
 intro w' hr hgr _
 refine hK w' ⟨D, _, _, hr, h2, fun l => ?_, fun x hx => (nomatch hx), List.nodup_nil⟩ ((Below.refl w.heap.size w).grown hgr (Nat.le_refl _) (fun k hk => (nomatch hk)))
 constructor
 ·intro hl
  obtain ⟨x, hx, e⟩ := h2.keys l hl
  exact ⟨x, hx, by simp, e⟩
 ·rintro ⟨x, hx, _, rfl⟩
  exact (h2.has x (h2.wf x hx)).mpr hx
theorem RunR.next_op {ops : Array Oper} {rest : List Oper} {o : Oper} {a : Act} {Q : Exit → Act → World → Prop} (h : RunR w b q r done) (hg : o.guard = none) (it : Operand) (hop : o.op = Op.next it false) (hit : a.eval it = .pointer (some ⟨q, 0, none⟩))
  (hDone : done.Perm r → wpList Tryd.prog ops Q rest (a.put o.dst (.tuple #[.bool false])) w)
  (hMore : ∀ (x : Nd) (w' : World), x ∈ r → x ∉ done → done.length < r.length → RunR w' b q r (done ++ [x]) → w.grownBy w' (some q) → w'.heap.size = w.heap.size → w'.rangeLeft b q < w.rangeLeft b q → (Instr.entry (.pointer (some ⟨q, 0, none⟩))).run Tryd.prog w' = .ok (.tuple #[ndV x, .bool true]) w' → wpList Tryd.prog ops Q rest (a.put o.dst (.tuple #[.bool true, ndV x, .bool true])) w') :
  wpList Tryd.prog ops Q (o :: rest) a w := by
 obtain ⟨D, left, cnt, h1, h2, h3, h4, h5⟩ := h
 refine wpList_next_ranges w hg it hop 24 nd_law (plainElem Tryd.prog 4) id id (fun key _ _ => ⟨key, rfl⟩) (fun v _ _ => ⟨v, rfl⟩) b q _ D left cnt hit h1 ?_ ?_
 ·intro _ hl
  refine hDone ?_
  refine (List.perm_ext_iff_of_nodup h5 h2.up.nodup).mpr (fun x => ⟨h4 x, fun hx => ?_⟩)
  exact Classical.byContradiction (fun hn => by
   have := (h3 (nl x)).mpr ⟨x, hx, hn, rfl⟩
   rw [hl] at this; cases this)
 ·intro key val kl y w' cnt' hkey hlk hv hat hr hlt hgr hsz hen
  obtain ⟨x, hx, hn, rfl⟩ := (h3 kl).mp hlk
  have hk : key = ndV x := nd_law.inj hkey (nd_key (h2.wf x hx))
  have hvy := hat (.lit (.bool false))
  rw [h2.val _ _ ((h2.has x (h2.wf x hx)).mpr hx)] at hvy
  have hval : val = .bool true := by
   refine plain_bool_inv (ps := y.2) Tryd.underlying4 ?_
   have : y = (DataW.lit (Lit.bool true), y.2) := by rw [hvy]
   rw [← this]; exact hv
  subst hk hval
  have hlen : done.length < r.length := by
   have hsub : (done ++ [x]).Nodup := List.nodup_append.mpr ⟨h5, by simp, fun a ha c hc e => hn (by rw [List.mem_singleton] at hc; rw [← hc, ← e]; exact ha)⟩
   have h6 := (@length_le_of_subset Nd (Classical.typeDecidableEq _) _ _ hsub (fun z hz => by
    rcases List.mem_append.mp hz with hz | hz
    ·exact h4 z hz
    ·rw [List.mem_singleton.mp hz]; exact hx))
   rw [List.length_append, List.length_singleton] at h6
   omega
  refine hMore x w' hx hn hlen ⟨D, _, cnt', hr, h2, fun l => ?_, fun z hz => ?_, ?_⟩ hgr hsz (by rw [hr.left_eq, h1.left_eq]; exact hlt) hen
  ·rw [Bool.and_eq_true, h3]
   constructor
   ·rintro ⟨⟨z, hz, hzn, rfl⟩, hne⟩
    refine ⟨z, hz, fun hm => ?_, rfl⟩
    rcases List.mem_append.mp hm with hm | hm
    ·exact hzn hm
    ·rw [List.mem_singleton.mp hm, WideAt.sameKey_self (nl_lit x)] at hne
     cases hne
   ·rintro ⟨z, hz, hzn, rfl⟩
    refine ⟨⟨z, hz, fun hm => hzn (List.mem_append_left _ hm), rfl⟩, ?_⟩
    rw [Maps.sameKey_ne (fun e => hzn (List.mem_append_right _ (by rw [nl_inj (h2.wf z hz) (h2.wf x hx) e]; simp)))]
    rfl
  ·rcases List.mem_append.mp hz with hz | hz
   ·exact h4 z hz
   ·rw [List.mem_singleton.mp hz]; exact hx
  ·exact List.nodup_append.mpr ⟨h5, by simp, fun a ha c hc e => hn (by rw [List.mem_singleton] at hc; rw [← hc, ← e]; exact ha)⟩
end
end Go.Proofs.YtgidnkmlnccaiaaDoor.Q
/- Set.Has, Set.Len, Of: by hand. -/
namespace Go.Proofs.YtgidnkmlnccaiaaDoor.Q
open Go.RowKit Go.Proofs.YtgidnkmlnccaiaaDoorW.PrintWords Go.Proofs.YtgidnkmlnccaiaaDoorW.PrintLast Go.Proofs.YtgidnkmlnccaiaaDoorW.PrintMore
set_option linter.unusedVariables false
set_option linter.unusedSimpArgs false
/-- A set's map: nil, or a block. -/
def SetO (w : World) (m : Option Nat) (r : List Nd) : Prop := match m with | none => r = [] | some b => SetR w b r
section
variable {w w1 : World} {m : Option Nat} {r : List Nd}
theorem SetO.below (h : SetO w m r) (hb : Below w.heap.size w w1) : SetO w1 m r := by
 cases m with
 | none => exact h
 | some b => exact SetR.below h hb
theorem SetO.alloc (h : SetO w m r) (o : Obj) : SetO (w.alloc o) m r := h.below (below_alloc (Below.refl _ _) o)
theorem SetO.up (h : SetO w m r) : Up r := by
 cases m with
 | none => cases (show r = [] from h); exact List.Pairwise.nil
 | some b => exact SetR.up h
theorem SetO.wf (h : SetO w m r) : ∀ x ∈ r, ndW x := by
 cases m with
 | none => cases (show r = [] from h); exact fun x hx => (nomatch hx)
 | some b => exact SetR.wf h
theorem SetO.lookup (h : SetO w m r) {x : Nd} (hx : ndW x) : (Instr.lookup tM (.map m) (ndV x) false).run Tryd.prog w = .ok (.bool (decB (x ∈ r))) w := by
 cases m with
 | none =>
  cases (show r = [] from h)
  rw [Maps.look_nil false nd_law Tryd.underlying48 (zeroNb w) (nd_key hx), decB_false (by simp)]
  rfl
 | some b => exact SetR.lookup h hx
theorem SetO.len (h : SetO w m r) (ty : TypeId) : (Builtin.len_ #[tM] ty #[.map m]).run Tryd.prog w = .ok (.int .i64 r.length) w := by
 cases m with
 | none =>
  cases (show r = [] from h)
  exact Maps.len_nil Tryd.underlying48 ty
 | some b => exact SetR.len h ty
end
set_option maxRecDepth 100000 in
set_option maxHeartbeats 4000000 in
theorem set_Has (m : Option Nat) (r : List Nd) (x : Nd) (w : World) (h : SetO w m r) (hx : ndW x) :
  Calls Tryd.prog 25 #[.agg #[.map m], ndV x] w fun e w' => e = .returned (.bool (decB (x ∈ r))) ∧ Below w.heap.size w w' := by
 have HB := Aside0.mk (below_alloc (below_alloc (Below.refl w.heap.size w) (.cells #[.map m] 50)) (.cells #[.int .i64 x.f0, .int .i64 x.f1, .string x.f2] 24))
 have hlk := ((h.alloc (.cells #[.map m] 50)).alloc (.cells #[.int .i64 x.f0, .int .i64 x.f1, .string x.f2] 24)).lookup hx
 clear h
 unfold ndV at hlk ⊢
 go_enter Tryd.func25, Tryd.ntmps25
 go_wp2
 go_ret
 exact ⟨rfl, HB.out⟩
set_option maxRecDepth 100000 in
set_option maxHeartbeats 4000000 in
theorem set_Len (m : Option Nat) (r : List Nd) (w : World) (h : SetO w m r) :
  Calls Tryd.prog 26 #[.agg #[.map m]] w fun e w' => e = .returned (.int .i64 r.length) ∧ Below w.heap.size w w' := by
 have HB := Aside0.mk (below_alloc (Below.refl w.heap.size w) (.cells #[.map m] 50))
 have hln := fun ty => (h.alloc (.cells #[.map m] 50)).len ty
 clear h
 go_enter Tryd.func26, Tryd.ntmps26
 go_wp2
 go_ret
 exact ⟨rfl, HB.out⟩
def ofL (l : List Nd) : List Nd := l.foldl addR []
theorem ofL_snoc (l : List Nd) (x : Nd) : ofL (l ++ [x]) = addR (ofL l) x := by unfold ofL; rw [List.foldl_append]; rfl
theorem addR_le (x : Nd) : ∀ r, (addR r x).length ≤ r.length + 1
 | [] => Nat.le_refl _
 | y :: r => by
  unfold addR
  split
  ·exact Nat.le_succ _
  ·split
   ·exact Nat.le_refl _
   ·rw [List.length_cons, List.length_cons]; have := addR_le x r; omega
theorem foldl_le : ∀ (l r : List Nd), (l.foldl addR r).length ≤ r.length + l.length
 | [], r => Nat.le_refl _
 | x :: l, r => by
  rw [List.foldl_cons, List.length_cons]
  have := foldl_le l (addR r x); have := addR_le x r; omega
theorem ofL_le (l : List Nd) : (ofL l).length ≤ l.length := by have := foldl_le l []; simpa [ofL] using this
theorem take_next {α : Type} (l : List α) (z : α) {i : Nat} (hi : i < l.length) : l.take (i + 1) = l.take i ++ [l.getD i z] := by
 rw [List.take_succ_eq_append_getElem hi, getD_at l z hi]
set_option maxRecDepth 100000 in
set_option maxHeartbeats 8000000 in
theorem node_Of (A0 : Option Addr) (c0 : Nat) (l0 : List Nd) (w : World) (hr0 : Kd.C k24 w A0 l0.length l0) (hc0 : l0.length ≤ c0) (hw : ∀ x ∈ l0, ndW x) (hlen : l0.length ≤ 1000000) :
  Calls Tryd.prog 17 #[.slice A0 l0.length c0] w fun e w' => ∃ b, e = .returned (.agg #[.map (some b)]) ∧ w.heap.size ≤ b ∧ SetR w' b (ofL l0) ∧ Below w.heap.size w w' := by
 have hmm := @run_makeMap Tryd.prog
 have HR := Aside0.mk hr0; have HW := Aside0.mk hw
 have hlx : l0.length ≤ 9223372036854775807 := by omega
 clear hr0 hw
 go_enter Tryd.func17, Tryd.ntmps17
 go_wp2_with fail
 have HM : Aside0 (SetR (((w.alloc (.cells #[.map none] 50)).alloc (.map #[] 0)).alloc (.cells #[.map (some (w.heap.size + 1))] 50)) (w.heap.size + 1) (ofL (l0.take 0))) := ⟨by
  have := (SetR.made (w.alloc (.cells #[.map none] 50))).alloc (.cells #[.map (some (w.heap.size + 1))] 50)
  rw [World.size_alloc] at this
  exact this⟩
 have HB : Aside0 (Below w.heap.size w (((w.alloc (.cells #[.map none] 50)).alloc (.map #[] 0)).alloc (.cells #[.map (some (w.heap.size + 1))] 50))) := ⟨below_alloc (below_alloc (below_alloc (Below.refl _ _) _) _) _⟩
 have HZ : Aside0 ((((w.alloc (.cells #[.map none] 50)).alloc (.map #[] 0)).alloc (.cells #[.map (some (w.heap.size + 1))] 50)).heap[w.heap.size]? = some (.cells #[.map none] 50 (0, 0))) := ⟨blk_alloc (blk_alloc (blk_new _ _) _) _⟩
 have HS : Aside0 ((((w.alloc (.cells #[.map none] 50)).alloc (.map #[] 0)).alloc (.cells #[.map (some (w.heap.size + 1))] 50)).heap[w.heap.size + 1 + 1]? = some (.cells #[.map (some (w.heap.size + 1))] 50 (0, 0))) := ⟨by
  have := blk_new ((w.alloc (.cells #[.map none] 50)).alloc (.map #[] 0)) (.cells #[.map (some (w.heap.size + 1))] 50)
  simpa using this⟩
 generalize (((w.alloc (.cells #[.map none] 50)).alloc (.map #[] 0)).alloc (.cells #[.map (some (w.heap.size + 1))] 50)) = w1 at HM HB HZ HS ⊢
 go_loopw [10] (fun v10 wr => ∃ i : Nat, v10 = .int .i64 i ∧ i ≤ l0.length ∧ Aside0 (SetR wr (w.heap.size + 1) (ofL (l0.take i))) ∧ Aside0 (Below w.heap.size w wr) ∧ Aside0 (wr.heap[w.heap.size]? = some (.cells #[.map none] 50 (0, 0))) ∧ Aside0 (wr.heap[w.heap.size + 1 + 1]? = some (.cells #[.map (some (w.heap.size + 1))] 50 (0, 0)))) (fun v10 _ => l0.length - (intOf v10).toNat)
 case atStart => exact ⟨0, rfl, Nat.zero_le _, HM, HB, HZ, HS⟩
 case round =>
  clear HM HB HZ HS
  obtain ⟨i, rfl, hi, HM, HB, HZ, HS⟩ := hrel
  by_cases hlt : i < l0.length
  ·obtain ⟨ad, e1, hx0, hx1, hx2⟩ := at_T24 (Kd.C_below HR.out HB.out) (i : Int) (by omega) (by omega)
   subst e1
   simp only [Int.toNat_natCast] at hx0 hx1 hx2
   obtain ⟨x, ex⟩ : ∃ x, x = rd_T24 l0 (i : Int) := ⟨_, rfl⟩
   rw [← ex] at hx0 hx1 hx2
   have hexg : l0.take (i + 1) = l0.take i ++ [x] := by
    rw [take_next l0 z24 hlt, ex]; rfl
   have hxw : ndW x := HW.out x (by
    rw [ex]; unfold rd_T24
    rw [Int.toNat_natCast, getD_at _ _ hlt]
    exact List.getElem_mem hlt)
   have hn : (ofL (l0.take i)).length < maxLen := by have := ofL_le (l0.take i); rw [List.length_take] at this; unfold maxLen; omega
   have HXW := Aside0.mk hxw; have HN := Aside0.mk hn; have HEX := Aside0.mk hexg
   have HM1 := Aside0.mk (HM.out.alloc (.cells #[.int .i64 x.f0, .int .i64 x.f1, .string x.f2] 24))
   have HB1 := Aside0.mk (below_alloc HB.out (.cells #[.int .i64 x.f0, .int .i64 x.f1, .string x.f2] 24))
   have HZ1 := Aside0.mk (blk_alloc HZ.out (.cells #[.int .i64 x.f0, .int .i64 x.f1, .string x.f2] 24))
   have HS1 := Aside0.mk (blk_alloc HS.out (.cells #[.int .i64 x.f0, .int .i64 x.f1, .string x.f2] 24))
   have hs0 := blk_cell HS1.out 0
   clear hxw hn hexg ex HM HB HZ HS
   go_wp2_with (at_mapUpdate; refine SetR.update_op HM1.out rfl (.tmp 15) (.tmp 16) (.const (.bool true)) rfl rfl HN.out x rfl rfl HXW.out ?_)
   intro w4 hs4 hg4
   have HM4 : Aside0 (SetR w4 (w.heap.size + 1) (ofL (l0.take (i + 1)))) := ⟨by rw [HEX.out, ofL_snoc]; exact hs4⟩
   have HB4 : Aside0 (Below w.heap.size w w4) := ⟨HB1.out.grown hg4 HB1.out.size (fun j hj => by injection hj with hj; omega)⟩
   have HZ4 := Aside0.mk (blk_grown HZ1.out hg4 (by simp))
   have HS4 := Aside0.mk (blk_grown HS1.out hg4 (by simp))
   clear hs4 hg4 hx0 hx1 hx2 hs0 HM1 HB1 HZ1 HS1
   go_wp2
   go_roundw
   case rel => exact ⟨i + 1, by go_num, by omega, HM4, HB4, HZ4, HS4⟩
   case measure => simp [intOf]; omega
  ·have hie : i = l0.length := by omega
   have HM9 : Aside0 (SetR wr (w.heap.size + 1) (ofL l0)) := ⟨by have h := HM.out; rw [hie, List.take_length] at h; exact h⟩
   clear HM
   have hs0 := bk1 HS.out; have hz0 := bk1 HZ.out
   have HBS := Aside0.mk (HB.out.setCell (p := ⟨w.heap.size, 0, none⟩) (Nat.le_refl _) (.map (some (w.heap.size + 1))))
   have HZ9 := Aside0.mk (blk_put HZ.out 0 (.map (some (w.heap.size + 1))) rfl)
   have HM10 := Aside0.mk (HM9.out.kept (grownBy_setCell' wr w.heap.size (.map (some (w.heap.size + 1)))) (by simp))
   clear HS HM9 HZ
   go_wp2
   generalize wr.setCell ⟨w.heap.size, 0, none⟩ (.map (some (w.heap.size + 1))) = w9 at HBS HZ9 HM10 ⊢
   refine bodyPost_ret (results_cell_row rfl _ _ w.heap.size 50 #[.map (some (w.heap.size + 1))] (0, 0) _ rfl HZ9.out Tryd.underlying50 rfl (by kernel_rfl)) rfl ?_
   exact ⟨_, rfl, by omega, HM10.out, HBS.out⟩
/-- A walk over a set that may be nil. -/
def RunO (w : World) (m : Option Nat) (q : Nat) (r done : List Nd) : Prop := match m with
 | none => r = [] ∧ done = [] ∧ ∃ a s b, w.heap[q]? = some (.mapIter none a s b)
 | some b => RunR w b q r done
def leftO (m : Option Nat) (q : Nat) (w : World) : Nat := match m with | none => 0 | some b => w.rangeLeft b q
theorem run_next_nil {w : World} {q : Nat} {a : Nat} {s : Array Nat} {b : Nat} (h : w.heap[q]? = some (.mapIter none a s b)) (ty : TypeId) :
  (Instr.next (.pointer (some ⟨q, 0, none⟩)) false ty).run Tryd.prog w = .ok (.tuple #[.bool false]) w := by
 simp only [Instr.next, getObj, Sem.run_bind, Sem.run, h, Result.andThen]
 rfl
section
variable {w w1 : World} {m : Option Nat} {q : Nat} {r done : List Nd}
theorem SetO.kept (h : SetO w m r) {row : Option Nat} (hg : w.grownBy w1 row) (hb : ∀ b, m = some b → some b ≠ row) : SetO w1 m r := by
 cases m with
 | none => exact h
 | some b => exact SetR.kept h hg (hb b rfl)
theorem SetO.ne (h : SetO w m r) {q : Nat} (hq : q = w.heap.size) : ∀ b, m = some b → some b ≠ some q := by
 rintro b rfl e
 have := SetR.lt h
 injection e with e; omega
theorem RunO.set (h : RunO w m q r done) : SetO w m r := by
 cases m with
 | none => exact h.1
 | some b => exact RunR.set h
theorem RunO.lt (h : RunO w m q r done) : q < w.heap.size := by
 cases m with
 | none =>
  obtain ⟨_, _, a, s, b, hb⟩ := h
  exact (Array.getElem?_eq_some_iff.mp hb).1
 | some b => exact RunR.lt h
theorem RunO.kept (h : RunO w m q r done) {row : Option Nat} (hg : w.grownBy w1 row) (hb : ∀ b, m = some b → some b ≠ row) (hq : some q ≠ row) : RunO w1 m q r done := by
 have hlt := h.lt
 cases m with
 | none =>
  obtain ⟨h1, h2, a, s, b, hb⟩ := h
  exact ⟨h1, h2, a, s, b, (hg.block q hlt hq).trans hb⟩
 | some b => exact RunR.kept h hg (hb b rfl) hq
theorem RunO.below (h : RunO w m q r done) (hb : Below w.heap.size w w1) : RunO w1 m q r done := h.kept (grown_of_below hb none) (by simp) (by simp)
theorem RunR.left_alloc {b : Nat} (h : RunR w b q r done) (o : Obj) : (w.alloc o).rangeLeft b q = w.rangeLeft b q := by
 unfold World.rangeLeft
 rw [heap_alloc_old w o h.lt, heap_alloc_old w o h.set.lt]
theorem left_alloc (h : RunO w m q r done) (o : Obj) : leftO m q (w.alloc o) = leftO m q w := by
 cases m with
 | none => rfl
 | some b => exact RunR.left_alloc h o
theorem left_kept (h : RunO w m q r done) {row : Option Nat} (hg : w.grownBy w1 row) (hb : ∀ b, m = some b → some b ≠ row) (hq : some q ≠ row) : leftO m q w1 = leftO m q w := by
 cases m with
 | none => rfl
 | some b =>
  show w1.rangeLeft b q = w.rangeLeft b q
  have h1 := hg.block q h.lt hq
  have h2 := hg.block b (SetR.lt h.set) (hb b rfl)
  unfold World.rangeLeft
  rw [h1, h2]
theorem RunO.start_op {ops : Array Oper} {rest : List Oper} {o : Oper} {a : Act} {Q : Exit → Act → World → Prop} (h : SetO w m r) (hg : o.guard = none) (x : Operand) (hop : o.op = Op.range tM x) (hm : a.eval x = .map m)
  (hK : ∀ w', RunO w' m w.heap.size r [] → Below w.heap.size w w' → wpList Tryd.prog ops Q rest (a.put o.dst (.pointer (some ⟨w.heap.size, 0, none⟩))) w') : wpList Tryd.prog ops Q (o :: rest) a w := by
 cases m with
 | none =>
  cases (show r = [] from h)
  refine wpList_plain hg fun K' hK' => ?_
  unfold Oper.wp
  simp [execOp, hop, hm, run_range_nilMap w tM _ _ Tryd.underlying48, Result.andThen]
  exact hK' _ _ (hK _ ⟨rfl, rfl, 0, #[], 0, heap_alloc_new _ _⟩ (below_alloc (Below.refl _ _) _))
 | some b => exact RunR.start_op h hg x hop hm hK
theorem RunO.next_op {ops : Array Oper} {rest : List Oper} {o : Oper} {a : Act} {Q : Exit → Act → World → Prop} (h : RunO w m q r done) (hg : o.guard = none) (it : Operand) (hop : o.op = Op.next it false) (hit : a.eval it = .pointer (some ⟨q, 0, none⟩))
  (hDone : done.Perm r → wpList Tryd.prog ops Q rest (a.put o.dst (.tuple #[.bool false])) w)
  (hMore : ∀ (x : Nd) (w' : World), x ∈ r → x ∉ done → done.length < r.length → RunO w' m q r (done ++ [x]) → w.grownBy w' (some q) → w'.heap.size = w.heap.size → leftO m q w' < leftO m q w → (Instr.entry (.pointer (some ⟨q, 0, none⟩))).run Tryd.prog w' = .ok (.tuple #[ndV x, .bool true]) w' → wpList Tryd.prog ops Q rest (a.put o.dst (.tuple #[.bool true, ndV x, .bool true])) w') :
  wpList Tryd.prog ops Q (o :: rest) a w := by
 cases m with
 | none =>
  obtain ⟨rfl, rfl, a1, s1, b1, hb⟩ := h
  refine wpList_plain hg fun K' hK' => ?_
  unfold Oper.wp
  simp [execOp, hop, hit, run_next_nil hb, Result.andThen]
  exact hK' _ _ (hDone (List.Perm.refl _))
 | some b => exact RunR.next_op h hg it hop hit hDone hMore
end
set_option maxRecDepth 100000 in
set_option maxHeartbeats 8000000 in
theorem set_Within (m n : Option Nat) (r s : List Nd) (w : World) (h : SetO w m r) (h2 : SetO w n s) :
  Calls Tryd.prog 23 #[.agg #[.map m], .agg #[.map n]] w fun e w' => e = .returned (.bool (decB (∀ x ∈ r, x ∈ s))) ∧ Below w.heap.size w w' := by
 have HB := Aside0.mk (below_alloc (below_alloc (Below.refl w.heap.size w) (.cells #[.map m] 50)) (.cells #[.map n] 50))
 have HM := Aside0.mk ((h.alloc (.cells #[.map m] 50)).alloc (.cells #[.map n] 50))
 have HN := Aside0.mk ((h2.alloc (.cells #[.map m] 50)).alloc (.cells #[.map n] 50))
 have HQ := Aside0.mk (HB.out.size)
 clear h h2
 go_enter Tryd.func23, Tryd.ntmps23
 go_wp2_with (at_range; refine RunO.start_op HM.out rfl (.tmp 7) rfl rfl ?_)
 intro w1 hr hb0
 have hb : Below ((w.alloc (.cells #[.map m] 50)).alloc (.cells #[.map n] 50)).heap.size ((w.alloc (.cells #[.map m] 50)).alloc (.cells #[.map n] 50)) w1 := by rw [World.size_alloc, World.size_alloc]; exact hb0
 have HR := Aside0.mk hr
 have HT : Aside0 (w1.heap[w.heap.size + 1]? = some (.cells #[.map n] 50 (0, 0))) := ⟨by
  have := blk_new (w.alloc (.cells #[.map m] 50)) (.cells #[.map n] 50)
  have := blk_below this hb
  rw [World.size_alloc] at this
  exact this⟩
 have HN1 := Aside0.mk (HN.out.below hb)
 have HNE := Aside0.mk (HN.out.ne (q := w.heap.size + 1 + 1) (by rw [World.size_alloc, World.size_alloc]))
 have HB1 := Aside0.mk (below_step HB.out hb)
 have HQ1 := Aside0.mk (show w.heap.size ≤ w.heap.size + 1 + 1 by omega)
 have HQ2 := Aside0.mk (show w.heap.size + 1 ≠ w.heap.size + 1 + 1 by omega)
 clear hr hb hb0 HN HB HM HQ
 generalize w.heap.size + 1 + 1 = q at HR HQ1 HQ2 HNE ⊢
 go_wp2_with fail
 go_loopw [9] (fun _ wr => ∃ done : List Nd, Aside0 (RunO wr m q r done) ∧ Aside0 (SetO wr n s) ∧ Aside0 (Below w.heap.size w wr) ∧ Aside0 (wr.heap[w.heap.size + 1]? = some (.cells #[.map n] 50 (0, 0))) ∧ Aside0 (∀ x ∈ done, x ∈ s)) (fun _ wr => leftO m q wr)
 case atStart => exact ⟨[], HR, HN1, HB1, HT, ⟨fun x hx => (nomatch hx)⟩⟩
 case round =>
  clear HR HN1 HB1 HT
  obtain ⟨done, HR, HN, HB, HT, HD⟩ := hrel
  go_wp2_with (at_next; refine RunO.next_op HR.out rfl (.tmp 8) rfl rfl ?_ ?_)
  ·intro hperm
   have hd : decB (∀ x ∈ r, x ∈ s) = true := decB_true (fun x hx => HD.out x (hperm.mem_iff.mpr hx))
   clear hperm
   go_wp2
   go_ret
   exact ⟨by rw [hd]; rfl, HB.out⟩
  ·intro x w2 hx hn hl hr2 hg hsz hlt hen
   have hxw : ndW x := HR.out.set.wf x hx
   have HN2 := (HN.out.kept hg HNE.out).alloc (.cells #[.int .i64 x.f0, .int .i64 x.f1, .string x.f2] 24)
   have HR2 := Aside0.mk (hr2.below (below_alloc (Below.refl _ _) (.cells #[.int .i64 x.f0, .int .i64 x.f1, .string x.f2] 24)))
   have HB2 := Aside0.mk (below_alloc (HB.out.grown hg HB.out.size (fun j hj => by injection hj with hj; have := HQ1.out; omega)) (.cells #[.int .i64 x.f0, .int .i64 x.f1, .string x.f2] 24))
   have HT2 := Aside0.mk (blk_alloc (blk_grown HT.out hg (by have := HQ2.out; simpa using this)) (.cells #[.int .i64 x.f0, .int .i64 x.f1, .string x.f2] 24))
   have HLT : Aside0 (leftO m q (w2.alloc (.cells #[.int .i64 x.f0, .int .i64 x.f1, .string x.f2] 24)) < leftO m q wr) := ⟨by
    have e : leftO m q (w2.alloc (.cells #[.int .i64 x.f0, .int .i64 x.f1, .string x.f2] 24)) = leftO m q w2 := left_alloc hr2 _
    rw [e]; exact hlt⟩
   have HX := Aside0.mk hx; have HSZ := Aside0.mk hsz
   have ht := bk1 HT2.out
   have hlk := HN2.lookup hxw
   unfold ndV at hen hlk ⊢
   have HN3 := Aside0.mk HN2
   clear hr2 hlt hx hn hl hsz hg HN HR HB HT hxw HN2
   by_cases hxs : x ∈ s
   ·rw [decB_true hxs] at hlk
    have HXS := Aside0.mk hxs
    clear hxs
    go_wp2
    go_roundw
    case rel => exact ⟨done ++ [x], HR2, HN3, HB2, HT2, ⟨fun z hz => by
     rcases List.mem_append.mp hz with hz | hz
     ·exact HD.out z hz
     ·rw [List.mem_singleton.mp hz]; exact HXS.out⟩⟩
    case measure => exact HLT.out
   ·rw [decB_false hxs] at hlk
    have hd : decB (∀ x ∈ r, x ∈ s) = false := decB_false (fun h => hxs (h x HX.out))
    clear hxs
    go_wp2
    go_ret
    exact ⟨by rw [hd]; rfl, HB2.out⟩
/-- Those of a type. -/
def typedL (typ : ByteArray) (r : List Nd) : List Nd := r.filter (fun x => decide (x.f2 = typ))
theorem ofL_mem (z : Nd) (l : List Nd) : z ∈ ofL l ↔ z ∈ l := by
 have : ∀ (l r : List Nd), z ∈ l.foldl addR r ↔ z ∈ r ∨ z ∈ l := by
  intro l
  induction l with
  | nil => intro r; simp
  | cons x l ih =>
   intro r
   rw [List.foldl_cons, ih, addR_mem, List.mem_cons]
   exact or_assoc
 unfold ofL
 rw [this]; simp
theorem ofL_up (l : List Nd) : Up (ofL l) := by
 have : ∀ (l r : List Nd), Up r → Up (l.foldl addR r) := by
  intro l
  induction l with
  | nil => intro r h; exact h
  | cons x l ih => intro r h; exact ih _ (addR_up h)
 exact this l [] List.Pairwise.nil
theorem ofL_eq {l r : List Nd} (hr : Up r) (h : ∀ x, x ∈ l ↔ x ∈ r) : ofL l = r := up_ext (ofL_up l) hr (fun x => (ofL_mem x l).trans (h x))
theorem typedL_snoc (typ : ByteArray) (l : List Nd) (x : Nd) : typedL typ (l ++ [x]) = if x.f2 = typ then typedL typ l ++ [x] else typedL typ l := by
 unfold typedL
 rw [List.filter_append]
 by_cases h : x.f2 = typ
 ·rw [if_pos h]; simp [h]
 ·rw [if_neg h]; simp [h]
set_option maxRecDepth 100000 in
set_option maxHeartbeats 8000000 in
theorem set_Typed (m : Option Nat) (r : List Nd) (typ : ByteArray) (w : World) (h : SetO w m r) (hlen : r.length ≤ 1000000) :
  Calls Tryd.prog 24 #[.agg #[.map m], .string typ] w fun e w' => ∃ b, e = .returned (.agg #[.map (some b)]) ∧ w.heap.size ≤ b ∧ SetR w' b (typedL typ r) ∧ Below w.heap.size w w' := by
 have HB := Aside0.mk (below_alloc (below_alloc (Below.refl w.heap.size w) (.cells #[.map m] 50)) (.cells #[.map none] 50))
 have HM := Aside0.mk ((h.alloc (.cells #[.map m] 50)).alloc (.cells #[.map none] 50))
 have HT : Aside0 (((w.alloc (.cells #[.map m] 50)).alloc (.cells #[.map none] 50)).heap[w.heap.size]? = some (.cells #[.map m] 50 (0, 0))) := ⟨blk_alloc (blk_new _ _) _⟩
 have HZ : Aside0 (((w.alloc (.cells #[.map m] 50)).alloc (.cells #[.map none] 50)).heap[w.heap.size + 1]? = some (.cells #[.map none] 50 (0, 0))) := ⟨by
  have := blk_new (w.alloc (.cells #[.map m] 50)) (.cells #[.map none] 50)
  rw [World.size_alloc] at this
  exact this⟩
 have HSZ : Aside0 (((w.alloc (.cells #[.map m] 50)).alloc (.cells #[.map none] 50)).heap.size = w.heap.size + 1 + 1) := ⟨by rw [World.size_alloc, World.size_alloc]⟩
 clear h
 go_enter Tryd.func24, Tryd.ntmps24
 go_wp2_with fail
 generalize ((w.alloc (.cells #[.map m] 50)).alloc (.cells #[.map none] 50)) = w1 at HB HM HT HZ HSZ ⊢
 refine (node_Of none 0 [] w1 (Kd.C_nil _ _) (Nat.le_refl _) (fun x hx => (nomatch hx)) (Nat.zero_le _)).mono ?_
 rintro e w2 ⟨b, rfl, hb1, hs, hb2⟩
 have HS : Aside0 (SetR (w2.alloc (.cells #[.map (some b)] 50)) b []) := ⟨hs.alloc _⟩
 have hbl : Below w1.heap.size w1 (w2.alloc (.cells #[.map (some b)] 50)) := below_alloc hb2 _
 have HB2 := Aside0.mk (below_step HB.out hbl)
 have HM2 := Aside0.mk (HM.out.below hbl)
 have HT2 := Aside0.mk (blk_below HT.out hbl)
 have HZ2 := Aside0.mk (blk_below HZ.out hbl)
 have HS2 : Aside0 ((w2.alloc (.cells #[.map (some b)] 50)).heap[w2.heap.size]? = some (.cells #[.map (some b)] 50 (0, 0))) := ⟨blk_new _ _⟩
 have HMB : Aside0 (∀ b', m = some b' → some b' ≠ some b) := ⟨by
  rintro b' rfl e
  have := SetR.lt (show SetR w1 b' r from HM.out)
  injection e with e; omega⟩
 have HBL : Aside0 (b < w2.heap.size) := ⟨hs.lt⟩
 have HBG : Aside0 (w.heap.size + 1 + 1 ≤ b) := ⟨by rw [← HSZ.out]; exact hb1⟩
 clear hb1 hs hb2 hbl HB HM HT HZ HSZ
 go_upto_region 2 with (fail)
 generalize w2.alloc (.cells #[.map (some b)] 50) = w3 at HS HB2 HM2 HT2 HZ2 HS2 ⊢
 generalize w2.heap.size = gs at HS2 HBL ⊢
 have HGS : Aside0 (gs < w3.heap.size) := ⟨blk_lt HS2.out⟩
 have ht := bk1 HT2.out
 go_wp2_with (at_range; refine RunO.start_op HM2.out rfl (.tmp 9) rfl rfl ?_)
 clear ht
 intro w4 hr hb
 have HS4 := Aside0.mk (HS.out.below hb)
 have HB4 := Aside0.mk (below_step HB2.out hb)
 have HZ4 := Aside0.mk (blk_below HZ2.out hb)
 have HG4 := Aside0.mk (blk_below HS2.out hb)
 have HR4 := Aside0.mk hr
 clear hb hr HS HB2 HM2 HT2 HZ2 HS2
 generalize w3.heap.size = q at HGS HR4 ⊢
 go_wp2_with fail
 have HQB : Aside0 (b < q) := ⟨by have := HGS.out; have := HBL.out; omega⟩
 go_loopw [11] (fun _ wr => ∃ done : List Nd, Aside0 (RunO wr m q r done) ∧ Aside0 (SetR wr b (ofL (typedL typ done))) ∧ Aside0 (Below w.heap.size w wr) ∧ Aside0 (wr.heap[w.heap.size + 1]? = some (.cells #[.map none] 50 (0, 0))) ∧ Aside0 (wr.heap[gs]? = some (.cells #[.map (some b)] 50 (0, 0))) ∧ Aside0 (done.length ≤ r.length)) (fun _ wr => leftO m q wr)
 case atStart => exact ⟨[], HR4, HS4, HB4, HZ4, HG4, ⟨Nat.zero_le _⟩⟩
 case round =>
  clear HR4 HS4 HB4 HZ4 HG4
  obtain ⟨done, HR, HS, HB, HZ, HG, HD⟩ := hrel
  go_wp2_with (at_next; refine RunO.next_op HR.out rfl (.tmp 10) rfl rfl ?_ ?_)
  ·intro hperm
   have hof : ofL (typedL typ done) = typedL typ r := ofL_eq (HR.out.set.up.filter _) (fun x => (hperm.filter _).mem_iff)
   have HS1 : Aside0 (SetR wr b (typedL typ r)) := ⟨by rw [← hof]; exact HS.out⟩
   clear hperm hof HS
   have hs0 := bk1 HG.out; have hz0 := bk1 HZ.out
   have HBS := Aside0.mk (HB.out.setCell (p := ⟨w.heap.size + 1, 0, none⟩) (Nat.le_succ _) (.map (some b)))
   have HZ9 := Aside0.mk (blk_put HZ.out 0 (.map (some b)) rfl)
   have HM10 := Aside0.mk (HS1.out.kept (grownBy_setCell' wr (w.heap.size + 1) (.map (some b))) (by have := HBG.out; simp; omega))
   clear HS1 HZ
   go_wp2
   generalize wr.setCell ⟨w.heap.size + 1, 0, none⟩ (.map (some b)) = w9 at HBS HZ9 HM10 ⊢
   refine bodyPost_ret (results_cell_row rfl _ _ (w.heap.size + 1) 50 #[.map (some b)] (0, 0) _ rfl HZ9.out Tryd.underlying50 rfl (by kernel_rfl)) rfl ?_
   exact ⟨_, rfl, by have := HBG.out; omega, HM10.out, HBS.out⟩
  ·intro x w5 hx hn hl hr2 hg hsz hlt hen
   have hxw : ndW x := HR.out.set.wf x hx
   have HN2 : Aside0 (SetR (w5.alloc (.cells #[.int .i64 x.f0, .int .i64 x.f1, .string x.f2] 24)) b (ofL (typedL typ done))) := ⟨(HS.out.kept hg (by have := HQB.out; simp; omega)).alloc _⟩
   have HR2 := Aside0.mk (hr2.below (below_alloc (Below.refl _ _) (.cells #[.int .i64 x.f0, .int .i64 x.f1, .string x.f2] 24)))
   have HGW : Aside0 (w.heap.size ≤ q) := ⟨by have := HQB.out; have := HBG.out; omega⟩
   have HB2 := Aside0.mk (below_alloc (HB.out.grown hg HB.out.size (fun j hj => by injection hj with hj; have := HGW.out; omega)) (.cells #[.int .i64 x.f0, .int .i64 x.f1, .string x.f2] 24))
   have HZ2 := Aside0.mk (blk_alloc (blk_grown HZ.out hg (by have := HQB.out; have := HBG.out; simp; omega)) (.cells #[.int .i64 x.f0, .int .i64 x.f1, .string x.f2] 24))
   have HG2 := Aside0.mk (blk_alloc (blk_grown HG.out hg (by have := HGS.out; simp; omega)) (.cells #[.int .i64 x.f0, .int .i64 x.f1, .string x.f2] 24))
   have HLT : Aside0 (leftO m q (w5.alloc (.cells #[.int .i64 x.f0, .int .i64 x.f1, .string x.f2] 24)) < leftO m q wr) := ⟨by
    rw [left_alloc hr2 _]; exact hlt⟩
   have HX := Aside0.mk hx; have HSZ := Aside0.mk hsz; have HXW := Aside0.mk hxw
   have HLN : Aside0 ((done ++ [x]).length ≤ r.length) := ⟨by rw [List.length_append, List.length_singleton]; omega⟩
   have ht := bk1 HG2.out
   unfold ndV at hen ⊢
   clear hr2 hlt hx hn hl hsz hg HR HB HS HZ HG hxw
   by_cases hxs : x.f2 = typ
   ·have hc : (x.f2.toList == typ.toList) = true := by rw [hxs]; exact beq_self_eq_true _
    have HXS := Aside0.mk hxs
    clear hxs
    have HN : Aside0 ((ofL (typedL typ done)).length < maxLen) := ⟨by
     have h1 := ofL_le (typedL typ done)
     have h2 : (typedL typ done).length ≤ done.length := List.length_filter_le _ _
     have := HD.out
     unfold maxLen; omega⟩
    go_wp2_with (at_mapUpdate; refine SetR.update_op HN2.out rfl (.tmp 20) (.tmp 21) (.const (.bool true)) rfl rfl HN.out x rfl rfl HXW.out ?_)
    intro w6 hs6 hg6
    have HT3 : Aside0 (SetR w6 b (ofL (typedL typ (done ++ [x])))) := ⟨by rw [typedL_snoc, if_pos HXS.out, ofL_snoc]; exact hs6⟩
    have HLT6 : Aside0 (leftO m q w6 < leftO m q wr) := ⟨by
     rw [left_kept HR2.out hg6 HMB.out (by have := HQB.out; simp; omega)]; exact HLT.out⟩
    have HR6 := Aside0.mk (HR2.out.kept hg6 HMB.out (by have := HQB.out; simp; omega))
    have HB6 := Aside0.mk (HB2.out.grown hg6 HB2.out.size (fun j hj => by injection hj with hj; have := HBG.out; omega))
    have HZ6 := Aside0.mk (blk_grown HZ2.out hg6 (by have := HBG.out; simp; omega))
    have HG6 := Aside0.mk (blk_grown HG2.out hg6 (by have := HBL.out; simp; omega))
    clear hs6 hg6 HN2 HR2 HB2 HZ2 HG2 HLT ht hc
    go_wp2
    go_roundw
    case rel => exact ⟨done ++ [x], HR6, HT3, HB6, HZ6, HG6, HLN⟩
    case measure => exact HLT6.out
   ·have hc : (x.f2.toList == typ.toList) = false := beq_eq_false_iff_ne.mpr (fun e => hxs (bytes_eq e))
    have HT3 : Aside0 (SetR (w5.alloc (.cells #[.int .i64 x.f0, .int .i64 x.f1, .string x.f2] 24)) b (ofL (typedL typ (done ++ [x])))) := ⟨by rw [typedL_snoc, if_neg hxs]; exact HN2.out⟩
    clear hxs HN2
    go_wp2
    go_roundw
    case rel => exact ⟨done ++ [x], HR2, HT3, HB2, HZ2, HG2, HLN⟩
    case measure => exact HLT.out
end Go.Proofs.YtgidnkmlnccaiaaDoor.Q
/- maps.Keys of a set, slices.AppendSeq, Collect (after the kit's GgCollectAtTheDump, elements being nodes): by hand. -/
namespace Go.Proofs.YtgidnkmlnccaiaaDoor.Q
open Go.RowKit Go.Proofs.YtgidnkmlnccaiaaDoorW.PrintWords Go.Proofs.YtgidnkmlnccaiaaDoorW.PrintLast Go.Proofs.YtgidnkmlnccaiaaDoorW.PrintMore
set_option linter.unusedVariables false
set_option linter.unusedSimpArgs false
open Go.Maps Go.Sort Go.Shelf
section
variable {F : Fence} {n : Nat} {w w1 : World} {m : Option Nat} {q : Nat} {r done : List Nd} {ops : Array Oper} {rest : List Oper} {o : Oper} {a : Act} {Q : Exit → Act → World → Prop}
theorem RunO.walks (h : RunO w m q r done) (hk : KeepsWalks w w1) : RunO w1 m q r done := by
 cases m with
 | none =>
  obtain ⟨h1, h2, a, s, b, hb⟩ := h
  exact ⟨h1, h2, a, s, b, hk.same q _ hb rfl⟩
 | some b =>
  obtain ⟨D, left, cnt, h1, h2⟩ := h
  exact ⟨D, left, cnt, h1.of_walks hk, h2⟩
theorem RunO.left_walks (h : RunO w m q r done) (hk : KeepsWalks w w1) : leftO m q w1 = leftO m q w := by
 cases m with
 | none => rfl
 | some b =>
  obtain ⟨D, left, cnt, h1, h2⟩ := h
  show w1.rangeLeft b q = w.rangeLeft b q
  rw [(h1.of_walks hk).left_eq, h1.left_eq]
theorem RunO.iter_walk (h : RunO w m q r done) : ∃ o : Obj, w.heap[q]? = some o ∧ o.isWalk = true := by
 cases m with
 | none =>
  obtain ⟨h1, h2, a, s, b, hb⟩ := h
  exact ⟨_, hb, rfl⟩
 | some b =>
  obtain ⟨D, left, cnt, h1, h2⟩ := h
  exact h1.iter_walk
theorem RunO.start_in (h : SetO w m r) (hg : o.guard = none) (x : Operand) (hop : o.op = Op.range tM x) (hm : a.eval x = .map m)
  (hK : ∀ w', RunO w' m w.heap.size r [] → w.grownBy w' none → wpListIn F n Tryd.prog ops Q rest (a.put o.dst (.pointer (some ⟨w.heap.size, 0, none⟩))) w') : wpListIn F n Tryd.prog ops Q (o :: rest) a w := by
 cases m with
 | none =>
  cases (show r = [] from h)
  refine wpListIn_plain hg fun K' hK' => ?_
  unfold Oper.wpIn
  refine ⟨by simp [Oper.about, hop], ?_⟩
  rw [Oper.semAt_plain F _ _ (by rw [hop]; intro c hc'; cases hc')]
  simp [execOp, hop, hm, run_range_nilMap w tM _ _ Tryd.underlying48, Result.andThen]
  exact hK' _ _ (hK _ ⟨rfl, rfl, 0, #[], 0, heap_alloc_new _ _⟩ (World.grownBy_alloc w _ none))
 | some b =>
  obtain ⟨D, h1, h2⟩ := (show SetR w b r from h)
  refine wpListIn_range_own w hg x tM hop 24 4 nd_law Tryd.underlying48 (plainElem Tryd.prog 4) b _ D hm h1 ?_
  intro w' hr hgr _
  refine hK w' ⟨D, _, _, hr, h2, fun l => ?_, fun x hx => (nomatch hx), List.nodup_nil⟩ hgr
  constructor
  ·intro hl
   obtain ⟨x, hx, e⟩ := h2.keys l hl
   exact ⟨x, hx, by simp, e⟩
  ·rintro ⟨x, hx, _, rfl⟩
   exact (h2.has x (h2.wf x hx)).mpr hx
/-- The step of a walk: as Oper.wp's, inside a fence. -/
theorem next_in_of (hg : o.guard = none) (it : Operand) (hop : o.op = Op.next it false) (hit : a.eval it = .pointer (some ⟨q, 0, none⟩))
  {v : Value} {w' : World} (hrun : (Instr.next (.pointer (some ⟨q, 0, none⟩)) false o.type).run Tryd.prog w = .ok v w') (hK : wpListIn F n Tryd.prog ops Q rest (a.put o.dst v) w') : wpListIn F n Tryd.prog ops Q (o :: rest) a w := by
 refine wpListIn_plain hg fun K' hK' => ?_
 unfold Oper.wpIn
 refine ⟨by simp [Oper.about, hop], ?_⟩
 rw [Oper.semAt_plain F _ _ (by rw [hop]; intro c hc'; cases hc')]
 simp [execOp, hop, hit, hrun, Result.andThen]
 exact hK' _ _ hK
/-- What the step does. -/
theorem RunO.next_run (h : RunO w m q r done) (ty : TypeId) :
  (done.Perm r ∧ (Instr.next (.pointer (some ⟨q, 0, none⟩)) false ty).run Tryd.prog w = .ok (.tuple #[.bool false]) w) ∨
  ∃ (x : Nd) (w' : World), x ∈ r ∧ done.length < r.length ∧ RunO w' m q r (done ++ [x]) ∧ w.grownBy w' (some q) ∧ leftO m q w' < leftO m q w ∧ (Instr.entry (.pointer (some ⟨q, 0, none⟩))).run Tryd.prog w' = .ok (.tuple #[ndV x, .bool true]) w' ∧
   (Instr.next (.pointer (some ⟨q, 0, none⟩)) false ty).run Tryd.prog w = .ok (.tuple #[.bool true, ndV x, .bool true]) w' := by
 cases m with
 | none =>
  obtain ⟨rfl, rfl, a1, s1, b1, hb⟩ := h
  exact .inl ⟨List.Perm.refl _, run_next_nil hb ty⟩
 | some b =>
  obtain ⟨D, left, cnt, h1, h2, h3, h4, h5⟩ := h
  rcases h1.next nd_law ty with ⟨h0, hl, hrun⟩ | ⟨key, val, kl, y, w', cnt', hkey, hlk, hv, hat, hrun, hr, hlt, hgr, hsz, hen⟩
  ·refine .inl ⟨(List.perm_ext_iff_of_nodup h5 h2.up.nodup).mpr (fun x => ⟨h4 x, fun hx => ?_⟩), hrun⟩
   exact Classical.byContradiction (fun hn => by
    have := (h3 (nl x)).mpr ⟨x, hx, hn, rfl⟩
    rw [hl] at this; cases this)
  ·obtain ⟨x, hx, hn, rfl⟩ := (h3 kl).mp hlk
   have hk : key = ndV x := nd_law.inj hkey (nd_key (h2.wf x hx))
   have hvy := hat (.lit (.bool false))
   rw [h2.val _ _ ((h2.has x (h2.wf x hx)).mpr hx)] at hvy
   have hval : val = .bool true := by
    refine plain_bool_inv (ps := y.2) Tryd.underlying4 ?_
    have : y = (DataW.lit (Lit.bool true), y.2) := by rw [hvy]
    rw [← this]; exact hv
   subst hk hval
   have hnd : (done ++ [x]).Nodup := List.nodup_append.mpr ⟨h5, by simp, fun a ha c hc e => hn (by rw [List.mem_singleton] at hc; rw [← hc, ← e]; exact ha)⟩
   have hsub : ∀ z ∈ done ++ [x], z ∈ r := fun z hz => by
    rcases List.mem_append.mp hz with hz | hz
    ·exact h4 z hz
    ·rw [List.mem_singleton.mp hz]; exact hx
   have hlen : done.length < r.length := by
    have h6 := @length_le_of_subset Nd (Classical.typeDecidableEq _) _ _ hnd hsub
    rw [List.length_append, List.length_singleton] at h6
    omega
   refine .inr ⟨x, w', hx, hlen, ⟨D, _, cnt', hr, h2, fun l => ?_, hsub, hnd⟩, hgr, ?_, hen, hrun⟩
   ·rw [Bool.and_eq_true, h3]
    constructor
    ·rintro ⟨⟨z, hz, hzn, rfl⟩, hne⟩
     refine ⟨z, hz, fun hm => ?_, rfl⟩
     rcases List.mem_append.mp hm with hm | hm
     ·exact hzn hm
     ·rw [List.mem_singleton.mp hm, WideAt.sameKey_self (nl_lit x)] at hne
      cases hne
    ·rintro ⟨z, hz, hzn, rfl⟩
     refine ⟨⟨z, hz, fun hm => hzn (List.mem_append_left _ hm), rfl⟩, ?_⟩
     rw [Maps.sameKey_ne (fun e => hzn (List.mem_append_right _ (by rw [nl_inj (h2.wf z hz) (h2.wf x hx) e]; simp)))]
     rfl
   ·show w'.rangeLeft b q < w.rangeLeft b q
    rw [hr.left_eq, h1.left_eq]; exact hlt
end
abbrev kK : Nat := 41
abbrev kK1 : Nat := 55
theorem keys_in (F : Fence) (n : Nat) (h7 : F.fn kK) (hro : F.round = none) (mb : Option Nat) (w : World) :
  CallsIn F n Tryd.prog kK #[.map mb] w fun e w' => e = .returned (.func (.func kK1) #[] #[.pointer (some ⟨w.heap.size, 0, none⟩)]) ∧ w' = w.alloc (.cells #[.map mb] tM) := by
 refine callsIn_of_wp Tryd.func41 rfl h7 ?_ hro
 simp only [Tryd.ntmps41, List.size_toArray, List.length_cons, List.length_nil, Nat.reduceAdd, Nat.reduceSub, Array.replicate_succ, Array.replicate_zero, List.push_toArray, List.append_toArray, List.nil_append, List.cons_append]
 gi_wp2
 go_ret
 exact ⟨rfl, rfl⟩
set_option maxRecDepth 100000 in
set_option maxHeartbeats 4000000 in
theorem keys1_in (F : Fence) (n : Nat) (h10 : F.fn kK1) (hro : F.round = none) (hn : 1 ≤ n) (l Bm : Nat) (m : Option Nat) (r : List Nd) (J : List Nd → World → Prop)
  (hY : ∀ pre x W, J pre W → pre.length < r.length → YieldAt F (n - 1) Tryd.prog l #[ndV x] W fun e W' => e = .returned (.bool true) ∧ J (pre ++ [x]) W' ∧ KeepsWalks W W')
  (W : World) (hJ : AbidesFrom W.heap.size J) (hm : W.cell? ⟨Bm, 0, none⟩ = some (.map m)) (hs : SetO W m r) (h0 : J [] W) :
  CallsIn F n Tryd.prog kK1 #[.func (.yield l) #[] #[], .pointer (some ⟨Bm, 0, none⟩)] W fun e W' => (∃ v, e = .returned v) ∧ ∃ ss : List Nd, ss.Perm r ∧ J ss W' := by
 refine callsIn_of_wp Tryd.func55 rfl h10 ?_ hro
 simp only [Tryd.ntmps55, List.size_toArray, List.length_cons, List.length_nil, Nat.reduceAdd, Nat.reduceSub, Array.replicate_succ, Array.replicate_zero, List.push_toArray, List.append_toArray, List.nil_append, List.cons_append]
 gi_wp2_with (first
  | (gi_at_range; refine RunO.start_in hs rfl (.tmp 4) rfl rfl ?_; intro w0 hr0 hg0)
  | gi_in)
 go_frame
 gi_loopw [6] (fun _ wr => ∃ ss : List Nd, RunO wr m W.heap.size r ss ∧ J ss wr) (fun _ wr => leftO m W.heap.size wr)
 case atStart => exact ⟨[], hr0, hJ [] W w0 none h0 hg0 (fun r e => by cases e)⟩
 case round =>
  obtain ⟨ss, hr, hJs⟩ := hrel
  rcases hr.next_run 0 with ⟨hp, hrun⟩ | ⟨x, w2, hx, hl, hr2, hg2, hlt, hen, hrun⟩
  ·gi_wp2_with (first
    | (gi_at_next; refine next_in_of rfl (.tmp 5) rfl rfl hrun ?_)
    | gi_in)
   go_end0
   exact ⟨⟨_, rfl⟩, ss, hp, hJs⟩
  ·have hJ2 : J ss w2 := hJ ss wr w2 (some W.heap.size) hJs hg2 (fun r e => by cases e; exact ⟨Nat.le_refl _, hr.iter_walk⟩)
   have hJ3 : J ss (w2.alloc (.cells #[.int .i64 x.f0, .int .i64 x.f1, .string x.f2] 24)) := hJ ss w2 _ none hJ2 (World.grownBy_alloc w2 _ none) (fun r e => by cases e)
   obtain ⟨fn, tmps, assign, body, hy, hR⟩ := hY ss x (w2.alloc (.cells #[.int .i64 x.f0, .int .i64 x.f1, .string x.f2] 24)) hJ3 hl
   have hr3 := hr2.walks (KeepsWalks.alloc w2 (.cells #[.int .i64 x.f0, .int .i64 x.f1, .string x.f2] 24))
   have hlt3 : leftO m W.heap.size (w2.alloc (.cells #[.int .i64 x.f0, .int .i64 x.f1, .string x.f2] 24)) < leftO m W.heap.size wr := by rw [hr2.left_walks (KeepsWalks.alloc w2 _)]; exact hlt
   unfold ndV at hen hy
   clear hg2 hJ2 hJ3
   gi_wp2_with (first
    | (gi_at_next; refine next_in_of rfl (.tmp 5) rfl rfl hrun ?_)
    | gi_in)
   refine hR.mono ?_
   rintro e W3 ⟨rfl, hJ4, hk3⟩
   have hr4 := hr3.walks hk3
   have hlt4 : leftO m W.heap.size W3 < leftO m W.heap.size wr := by rw [hr3.left_walks hk3]; exact hlt3
   gi_wp2
   go_roundw
   case rel => exact ⟨ss ++ [x], hr4, hJ4⟩
   case measure => exact hlt4
/-- maps.Keys of a set hands back an iterator over its nodes. -/
theorem keys_gives (F : Fence) (n : Nat) (h10 : F.fn kK1) (hro : F.round = none) (hn : 1 ≤ n) (Bm : Nat) (m : Option Nat) (r : List Nd) (w : World) (hBm : Bm < w.heap.size)
  (hm : w.cell? ⟨Bm, 0, none⟩ = some (.map m)) (hs : SetO w m r) :
  SeqGives F n Tryd.prog kK1 #[.pointer (some ⟨Bm, 0, none⟩)] ndV (fun ss => ss.Perm r) r.length w := fun l J W hW hJ hY h0 =>
 keys1_in F n h10 hro hn l Bm m r J hY W hJ ((hW.cell (p := ⟨Bm, 0, none⟩) hBm).trans hm) (hs.below hW) h0
/-! ### slices.AppendSeq -/
abbrev fAp : Nat := 65
abbrev fCo : Nat := 53
noncomputable def apParts : Code × Code := match Tryd.f65.body with | some (.seq _ (.seq (.seq _ (.block _ (.rangeFunc _ _ a b))) _)) => (a, b) | _ => (.skip, .skip)
noncomputable def apAssign : Code := apParts.1
noncomputable def apBody : Code := apParts.2
def ndC (x : Nd) : List Value := [.int .i64 x.f0, .int .i64 x.f1, .string x.f2]
def ndCs (ss : List Nd) : List Value := ss.flatMap ndC
theorem ndCs_snoc (ss : List Nd) (x : Nd) : ndCs (ss ++ [x]) = ndCs ss ++ ndC x := by unfold ndCs; rw [List.flatMap_append]; simp
theorem ndCs_len : ∀ ss : List Nd, (ndCs ss).length = ss.length * 3
 | [] => rfl
 | x :: ss => by
  have := ndCs_len ss
  unfold ndCs at this ⊢
  rw [List.flatMap_cons, List.length_append, this, List.length_cons]
  simp [ndC]; omega
noncomputable def apRec (fn : FuncId) (sv : Value) (Bs D : Nat) (st : LoopState) (pend : Option Code) : Loop :=
 { state := st, pending := pend, fn, tmps := #[.slice none 0 0, sv, .pointer (some ⟨Bs, 0, none⟩), undef, .slice none 0 0, undef, sv, undef, undef, undef, undef, undef, undef], params := #[7], assign := apAssign, body := apBody, defers := D }
structure ApAt (w0 : World) (fn : FuncId) (sv : Value) (Bs l D : Nat) (ss : List Nd) (W : World) : Prop where
 box : ∃ v, W.heap[Bs]? = some (.cells #[v] 45 (0, 0)) ∧ W.ownsRow w0.heap.size 24 3 v ss.length (ndCs ss)
 L : W.heap[l]? = some (.loop (apRec fn sv Bs D .ready none))
 K : W.heap[D]? = some (.deferred (some []))
 below : Below w0.heap.size w0 W
/-- A slice's own row is no walk's object: it abides an iterator's step. -/
theorem ownsRow_abides {W W' : World} {row : Option Nat} {base : Nat} {e : TypeId} {size : Nat} {v : Value} {k : Nat} {xs : List Value} (h : W.ownsRow base e size v k xs) (hg : W.grownBy W' row)
  (hrow : ∀ r, row = some r → ∃ o : Obj, W.heap[r]? = some o ∧ o.isWalk = true) : W'.ownsRow base e size v k xs := by
 refine h.kept hg ?_
 rcases h.2 with ⟨rfl, _⟩ | ⟨g, cap, cur, rfl, _, hgb, _⟩
 ·exact .inl rfl
 ·refine .inr fun e' => ?_
  obtain ⟨o, ho, hw⟩ := hrow g (by simpa [Value.ownBlock] using e'.symm)
  rw [hgb] at ho; cases ho; cases hw
theorem ap_abides (w0 : World) (fn : FuncId) (sv : Value) (Bs l D B : Nat) (hB : w0.heap.size ≤ B) : AbidesFrom B (ApAt w0 fn sv Bs l D) := fun s W W' row h hg hrow => by
 have hrow' : ∀ r, row = some r → ∃ o : Obj, W.heap[r]? = some o ∧ o.isWalk = true := fun r e => (hrow r e).2
 obtain ⟨v, hv, hr⟩ := h.box
 exact ⟨⟨v, (grownBy_keeps hg hrow' hv rfl).trans hv, ownsRow_abides hr hg hrow'⟩, (grownBy_keeps hg hrow' h.L rfl).trans h.L, (grownBy_keeps hg hrow' h.K rfl).trans h.K,
  h.below.grown hg h.below.size (fun k e => Nat.le_trans hB (hrow k e).1)⟩
theorem grownBy_putObj (W : World) (l : Nat) (o : Obj) : W.grownBy (W.putObj l o) (some l) :=
 ⟨rfl, rfl, rfl, by simp, fun k _ hk => World.putObj_heap_other (fun e => hk (by rw [e]))⟩
theorem grownBy_setCell0 (W : World) (b : Nat) (v : Value) : W.grownBy (W.setCell ⟨b, 0, none⟩ v) (some b) :=
 ⟨rfl, rfl, rfl, (KeepsWalks.setCell W _ v).size, fun k _ hk => Below.heap_setCell _ _ _ k (fun e => hk (by rw [e]))⟩
/-- A slice's own row is not a block that holds something else than cells of its element's type. -/
theorem ownsRow_ne {W : World} {base : Nat} {e : TypeId} {size : Nat} {v : Value} {k : Nat} {xs : List Value} (h : W.ownsRow base e size v k xs) {j : Nat} {o : Obj} (hj : W.heap[j]? = some o) (hno : ∀ cur, o ≠ .cells cur e (0, 0)) :
  v.ownBlock = none ∨ v.ownBlock ≠ some j := by
 rcases h.2 with ⟨rfl, _⟩ | ⟨g, cap, cur, rfl, _, hgb, _⟩
 ·exact .inl rfl
 ·refine .inr fun e' => ?_
  have : g = j := by simpa [Value.ownBlock] using e'
  subst this; rw [hgb] at hj; cases hj; exact hno cur rfl
theorem cell_of_box {W : World} {B : Nat} {v : Value} {t : TypeId} (h : W.heap[B]? = some (.cells #[v] t (0, 0))) : W.cell? ⟨B, 0, none⟩ = some v ∧ W.frozen? ⟨B, 0, none⟩ = false := by
 constructor <;> simp [World.cell?, World.frozen?, h]
theorem heap_setCell_box {W : World} {B : Nat} {v : Value} {t : TypeId} (v' : Value) (h : W.heap[B]? = some (.cells #[v] t (0, 0))) : (W.setCell ⟨B, 0, none⟩ v').heap[B]? = some (.cells #[v'] t (0, 0)) := by
 obtain ⟨hlt, hk⟩ := Array.getElem?_eq_some_iff.1 h
 show (W.heap.modify B _)[B]? = _
 rw [Array.getElem?_eq_getElem (by rw [Array.size_modify]; exact hlt), Array.getElem_modify_self, hk]
 rfl
theorem ownsRow_not_walk {W : World} {base : Nat} {e : TypeId} {size : Nat} {v : Value} {k : Nat} {xs : List Value} (h : W.ownsRow base e size v k xs) : ∀ (j : Nat) (o : Obj), v.ownBlock = some j → W.heap[j]? = some o → o.isWalk = false := by
 intro j o hj ho
 rcases h.2 with ⟨rfl, _⟩ | ⟨g, cap, cur, rfl, _, hgb, _⟩
 ·simp [Value.ownBlock] at hj
 ·have : g = j := by simpa [Value.ownBlock] using hj
  subst this; rw [hgb] at ho; cases ho; rfl
theorem infoNd : (Tryd.prog.info? 24).map (fun i => (i.zero, i.size, i.bytes)) = some (some (.agg #[.int .i64 0, .int .i64 0, .string ⟨#[]⟩]), 3, 32) := by kernel_rfl
theorem own_shape {W : World} {base : Nat} {e : TypeId} {n : Nat} {xs : List Value} {v' : Value} (h : W.ownsRow base e 3 v' (n + 1) xs) : ∃ g' cap' cur', v' = .slice (some ⟨g', 0, none⟩) (n + 1) cap' ∧ base ≤ g' ∧ W.heap[g']? = some (.cells cur' e (0, 0)) ∧ n + 1 ≤ cap' ∧ cap' ≤ maxLen ∧ cur'.size = cap' * 3 ∧ cur'.toList.take ((n + 1) * 3) = xs := by
 rcases h.2 with ⟨_, h0⟩ | h'
 ·exact absurd h0 (by omega)
 ·exact h'
theorem cell_nd_new (w : World) (x : Nd) (t : TypeId) : ∀ j u, (ndC x)[j]? = some u → (w.alloc (.cells #[.int .i64 x.f0, .int .i64 x.f1, .string x.f2] t)).cell? ((⟨w.heap.size, 0, none⟩ : Addr).add j) = some u := by
 intro j u h
 unfold ndC at h
 rcases j with _ | _ | _ | j
 ·simpa [Addr.add] using h
 ·simpa [Addr.add] using h
 ·simpa [Addr.add] using h
 ·simp at h
set_option maxRecDepth 100000 in
set_option maxHeartbeats 2000000 in
theorem apYield (F : Fence) (m : Nat) (w0 : World) (fn : FuncId) (hfn : F.fn fn) (sv : Value) (Bs l D : Nat) (hBl : Bs ≠ l) (hDl : D ≠ l) (hDB : D ≠ Bs) (h0B : w0.heap.size ≤ Bs) (h0l : w0.heap.size ≤ l)
  (N : Nat) (hN : N ≤ maxLen) (hNb : N * 32 ≤ 140737488355328) (ss : List Nd) (x : Nd) (W : World) (h : ApAt w0 fn sv Bs l D ss W) (hlen : ss.length < N) :
  YieldAt F m Tryd.prog l #[ndV x] W fun e W' => e = .returned (.bool true) ∧ ApAt w0 fn sv Bs l D (ss ++ [x]) W' ∧ KeepsWalks W W' := by
 obtain ⟨i0, hi, hz0, hz1, hz2⟩ := info_parts infoNd
 refine ⟨fn, #[.slice none 0 0, sv, .pointer (some ⟨Bs, 0, none⟩), undef, .slice none 0 0, undef, sv, ndV x, undef, undef, undef, undef, undef], apAssign, apBody, by simpa [apRec] using run_yield (P := Tryd.prog) (args := #[ndV x]) h.L rfl, roundIn_of_wpIn hfn ?_⟩
 have hl0 : l < W.heap.size := (Array.getElem?_eq_some_iff.1 h.L).1
 have hB0 : Bs < W.heap.size := by obtain ⟨v, hv, _⟩ := h.box; exact (Array.getElem?_eq_some_iff.1 hv).1
 have h1 : ApAt w0 fn sv Bs l D ss (W.alloc (.cells #[.int .i64 x.f0, .int .i64 x.f1, .string x.f2] 24)) := by
  have hh := ap_abides w0 fn sv Bs l D w0.heap.size (Nat.le_refl _) ss W _ none h (World.grownBy_alloc W (.cells #[.int .i64 x.f0, .int .i64 x.f1, .string x.f2] 24) none) (fun r e => by cases e)
  exact hh
 have hX1 : (W.alloc (.cells #[.int .i64 x.f0, .int .i64 x.f1, .string x.f2] 24)).heap[W.heap.size]? = some (.cells #[.int .i64 x.f0, .int .i64 x.f1, .string x.f2] 24 (0, 0)) := blk_new _ _
 have hkW : KeepsWalks W (W.alloc (.cells #[.int .i64 x.f0, .int .i64 x.f1, .string x.f2] 24)) := KeepsWalks.alloc _ _
 unfold apAssign apParts Tryd.f65
 unfold ndV
 gi_wp2_with (rw [Oper.semAt_eq _ _ _ (fun c h => by cases h)]; go_simp; try go_bits)
 generalize W.alloc (.cells #[.int .i64 x.f0, .int .i64 x.f1, .string x.f2] 24) = W1 at h1 hX1 hkW ⊢
 obtain ⟨v, hv, hrow⟩ := h1.box
 have hl : l < W1.heap.size := (Array.getElem?_eq_some_iff.1 h1.L).1
 have hbr := run_beginRound (P := Tryd.prog) h1.L rfl
 obtain ⟨W2, hW2⟩ : ∃ W2, W1.putObj l (.loop { apRec fn sv Bs D .ready none with state := .busy }) = W2 := ⟨_, rfl⟩
 rw [hW2] at hbr
 refine ⟨W2, hbr, ?_⟩
 have hg2 : W1.grownBy W2 (some l) := by rw [← hW2]; exact grownBy_putObj _ _ _
 have hk2 : KeepsWalks W W2 := hkW.trans (by rw [← hW2]; exact KeepsWalks.putObj _ h1.L rfl)
 have hv2 : W2.heap[Bs]? = some (.cells #[v] 45 (0, 0)) := by rw [← hW2]; exact (World.putObj_heap_other hBl).trans hv
 have hX2 : W2.heap[W.heap.size]? = some (.cells #[.int .i64 x.f0, .int .i64 x.f1, .string x.f2] 24 (0, 0)) := by rw [← hW2]; exact (World.putObj_heap_other (by omega)).trans hX1
 have hK2 : W2.heap[D]? = some (.deferred (some [])) := by rw [← hW2]; exact (World.putObj_heap_other hDl).trans h1.K
 have hL2 : W2.heap[l]? = some (.loop { apRec fn sv Bs D .ready none with state := .busy }) := by rw [← hW2]; exact World.putObj_heap_same hl
 have hrow2 : W2.ownsRow w0.heap.size 24 3 v ss.length (ndCs ss) := hrow.kept hg2 (ownsRow_ne hrow h1.L (fun cur e => by cases e))
 have hb2 : Below w0.heap.size w0 W2 := h1.below.grown hg2 h1.below.size (fun k e => by cases e; exact h0l)
 obtain ⟨hc2, hf2⟩ := cell_of_box hv2
 have hx2 := bk3 hX2
 have hBlt : Bs < W2.heap.size := (Array.getElem?_eq_some_iff.1 hv2).1
 have hl2 : l < W2.heap.size := (Array.getElem?_eq_some_iff.1 hL2).1
 have hDlt : D < W2.heap.size := (Array.getElem?_eq_some_iff.1 hK2).1
 have ne_of : ∀ {j : Nat} {o : Obj}, W2.heap[j]? = some o → (∀ cur, o ≠ .cells cur 24 (0, 0)) → some j ≠ v.ownBlock := fun hj hno => by
  rcases ownsRow_ne hrow2 hj hno with e | e
  ·rw [e]; simp
  ·exact fun e' => e e'.symm
 clear hW2 hbr hX1 hv hrow hl hg2 hkW h1 h
 unfold apBody apParts Tryd.f65
 gi_wp2_with (first
  | (gi_at_builtin; refine wpListIn_append_own _ rfl _ _ 45 rfl w0.heap.size 24 i0 (.agg #[.int .i64 0, .int .i64 0, .string ⟨#[]⟩]) 3 32 Tryd.underlying45 hi hz0 hz1 hz2 rfl (by decide) _ _ _ rfl (hrow2.alloc _) ⟨W2.heap.size, 0, none⟩ 1 1 (ndC x) rfl rfl (cell_nd_new _ _ _) (by simp [Value.oneCell', ndC]) (by omega) (by omega) (by have := hb2.size; simp; omega) ?_; intro v' w3 hown' hg3 hnil3; have hv3 : w3.heap[Bs]? = some (.cells #[v] 45 (0, 0)) := (hg3.block Bs (by simp; omega) (ne_of hv2 (fun cur e => by cases e))).trans ((Below.heap_alloc _ _ Bs hBlt).trans hv2); obtain ⟨hc3, hf3⟩ := cell_of_box hv3; obtain ⟨g', cap', cur', rfl, hbase', hgb', hr1, hr2, hr3, hr4⟩ := own_shape hown'; go_frame)
  | (rw [Oper.semAt_eq _ _ _ (fun c h => by cases h)]; go_simp; try go_bits))
 have hg3' : (W2.alloc (.cells #[.int .i64 x.f0, .int .i64 x.f1, .string x.f2] 24)).grownBy w3 v.ownBlock := hg3
 have hL3 : w3.heap[l]? = some (.loop { apRec fn sv Bs D .ready none with state := .busy }) := (hg3'.block l (by simp; omega) (ne_of hL2 (fun cur e => by cases e))).trans ((Below.heap_alloc _ _ l hl2).trans hL2)
 have hK3 : w3.heap[D]? = some (.deferred (some [])) := (hg3'.block D (by simp; omega) (ne_of hK2 (fun cur e => by cases e))).trans ((Below.heap_alloc _ _ D hDlt).trans hK2)
 obtain ⟨w4, hw4⟩ : ∃ w4, w3.setCell ⟨Bs, 0, none⟩ (.slice (some ⟨g', 0, none⟩) (ss.length + 1) cap') = w4 := ⟨_, rfl⟩
 rw [hw4]
 have hg4 : w3.grownBy w4 (some Bs) := by rw [← hw4]; exact grownBy_setCell0 _ _ _
 have hv4 : w4.heap[Bs]? = some (.cells #[.slice (some ⟨g', 0, none⟩) (ss.length + 1) cap'] 45 (0, 0)) := by rw [← hw4]; exact heap_setCell_box _ hv3
 have hL4 : w4.heap[l]? = some (.loop { apRec fn sv Bs D .ready none with state := .busy }) := (hg4.block l (Array.getElem?_eq_some_iff.1 hL3).1 (fun e => hBl (by cases e; rfl))).trans hL3
 have hK4 : w4.heap[D]? = some (.deferred (some [])) := (hg4.block D (Array.getElem?_eq_some_iff.1 hK3).1 (fun e => hDB (by cases e; rfl))).trans hK3
 have hrow4 := hown'.kept hg4 (ownsRow_ne hown' hv3 (fun cur e => by cases e))
 have hl4 : l < w4.heap.size := (Array.getElem?_eq_some_iff.1 hL4).1
 have hb3 : Below w0.heap.size w0 w3 := (hb2.alloc hb2.size _).grown hg3' (by have := hb2.size; simp; omega) (fun k e => (hrow2.lt k e).1)
 have hb4 : Below w0.heap.size w0 w4 := hb3.grown hg4 hb3.size (fun k e => by cases e; exact h0B)
 have hk4 : KeepsWalks W w4 := ((hk2.trans (KeepsWalks.alloc _ _)).trans (KeepsWalks.of_grownBy hg3' (ownsRow_not_walk (hrow2.alloc _)))).trans (by rw [← hw4]; exact KeepsWalks.setCell _ _ _)
 clear hw4
 refine ⟨_, _, run_endRound none hL4, rfl, ⟨⟨_, (World.putObj_heap_other hBl).trans hv4, ?_⟩, World.putObj_heap_same hl4, (World.putObj_heap_other hDl).trans hK4, hb4.grown (grownBy_putObj _ _ _) hb4.size (fun k e => by cases e; exact h0l)⟩, hk4.trans (KeepsWalks.putObj _ hL4 rfl)⟩
 have := hrow4.kept (grownBy_putObj w4 l (.loop { { apRec fn sv Bs D .ready none with state := .busy } with state := if (none : Option Code).isNone then .ready else .done, pending := none })) (ownsRow_ne hrow4 hL4 (fun cur e => by cases e))
 rw [ndCs_snoc]
 simpa using this
set_option maxRecDepth 100000 in
set_option maxHeartbeats 2000000 in
theorem appendSeq_in (F : Fence) (n : Nat) (h11 : F.fn fAp) (hro : F.round = none) (hn : 2 ≤ n) (g : Nat) (lb : Array Value) (hFg : F.fn g) (eg : ∀ args w, (callFunc g args).run Tryd.prog w = .ok (.enter g args) w)
  (S : List Nd → Prop) (N : Nat) (hN : N ≤ maxLen) (hNb : N * 32 ≤ 140737488355328) (w : World) (hseq : SeqGives F (n - 1) Tryd.prog g lb ndV S N w) :
  CallsIn F n Tryd.prog fAp #[.slice none 0 0, .func (.func g) #[] lb] w fun e w' => ∃ (v : Value) (ss : List Nd), e = .returned v ∧ S ss ∧ w'.ownsRow w.heap.size 24 3 v ss.length (ndCs ss) ∧ Below w.heap.size w w' := by
 have h1 : 1 ≤ n := by omega
 refine callsIn_of_wp_marks Tryd.func65 rfl h11 ?_ hro
 simp only [Tryd.ntmps65, List.size_toArray, List.length_cons, List.length_nil, Nat.reduceAdd, Nat.reduceSub, Array.replicate_succ, Array.replicate_zero, List.push_toArray, List.append_toArray, List.nil_append, List.cons_append]
 gi_wp2
 refine wpIn_rangeFunc ?_
 intro fn hfn
 rw [hro]
 obtain ⟨W0, hW0⟩ : ∃ W0, w.alloc (.cells #[.slice none 0 0] 45) = W0 := ⟨_, rfl⟩
 have hs0 : W0.heap.size = w.heap.size + 1 := by rw [← hW0]; simp
 have hv0 : W0.heap[w.heap.size]? = some (.cells #[.slice none 0 0] 45 (0, 0)) := by rw [← hW0]; exact World.alloc_heap_new w _
 have hb0 : Below w.heap.size w W0 := by rw [← hW0]; exact (Below.refl _ w).alloc (Nat.le_refl _) _
 rw [hW0]
 obtain ⟨W1, hW1⟩ : ∃ W1, (W0.alloc (.deferred (some []))).alloc (.loop (apRec fn (.func (.func g) #[] lb) w.heap.size W0.heap.size .ready none)) = W1 := ⟨_, rfl⟩
 have hold : ∀ k, k < W0.heap.size → W1.heap[k]? = W0.heap[k]? := fun k hk => by
  rw [← hW1]; exact (Below.heap_alloc _ _ k (by simp; omega)).trans (Below.heap_alloc _ _ k hk)
 have hb1 : Below w.heap.size w W1 := by rw [← hW1]; exact (hb0.alloc hb0.size _).alloc (by have := hb0.size; simp; omega) _
 have hs1 : W1.heap.size = W0.heap.size + 2 := by rw [← hW1]; simp
 have hM : ApAt w fn (.func (.func g) #[] lb) w.heap.size (W0.heap.size + 1) W0.heap.size [] W1 :=
  ⟨⟨_, (hold w.heap.size (by omega)).trans hv0, ⟨rfl, .inl ⟨rfl, rfl⟩⟩⟩,
   by rw [← hW1]; have := World.alloc_heap_new (W0.alloc (.deferred (some []))) (.loop (apRec fn (.func (.func g) #[] lb) w.heap.size W0.heap.size .ready none)); rwa [World.size_alloc] at this,
   by rw [← hW1]; exact (Below.heap_alloc _ _ _ (by simp)).trans (World.alloc_heap_new W0 _), hb1⟩
 refine ⟨W0.heap.size + 1, [{ target := .collected W0.heap.size, args := #[] }], W1, { target := .fn (.func g) lb, args := #[.func (.yield (W0.heap.size + 1)) #[] #[]] }, W1, g,
  #[.func (.yield (W0.heap.size + 1)) #[] #[]] ++ lb, W1, ?_, ?_, ?_, ?_, fun _ => h1, ?_⟩
 ·rw [← hW1]; exact run_enterLoop_outer _ _ _ _ _
 ·simp [resolve, go_sem]
 ·intro f' hf'; simp [Target.leads] at hf'; subst hf'; exact hFg
 ·simp [invoke, go_sem, eg]
 ·refine (hseq (W0.heap.size + 1) (ApAt w fn (.func (.func g) #[] lb) w.heap.size (W0.heap.size + 1) W0.heap.size) W1 hb1 (ap_abides _ _ _ _ _ _ _ hb1.size)
   (fun pre x W hJ hl => apYield F (n - 1 - 1) w fn hfn _ w.heap.size (W0.heap.size + 1) W0.heap.size (by omega) (by omega) (by omega) (Nat.le_refl _) (by omega) N hN hNb pre x W hJ hl) hM).mono ?_
  rintro e W2 ⟨⟨v0, rfl⟩, ss, hS, h2⟩
  obtain ⟨v, hv, hrow⟩ := h2.box
  have hend := run_endLoop (P := Tryd.prog) h2.L (by simp [apRec])
  obtain ⟨W3, hW3⟩ : ∃ W3, W2.putObj (W0.heap.size + 1) (.loop { apRec fn (.func (.func g) #[] lb) w.heap.size W0.heap.size .ready none with state := .exhausted }) = W3 := ⟨_, rfl⟩
  rw [hW3] at hend
  have hg3 : W2.grownBy W3 (some (W0.heap.size + 1)) := by rw [← hW3]; exact grownBy_putObj _ _ _
  have hv3 : W3.heap[w.heap.size]? = some (.cells #[v] 45 (0, 0)) := by rw [← hW3]; exact (World.putObj_heap_other (by omega)).trans hv
  have hK3 : W3.heap[W0.heap.size]? = some (.deferred (some [])) := by rw [← hW3]; exact (World.putObj_heap_other (by omega)).trans h2.K
  have hrow3 := hrow.kept hg3 (ownsRow_ne hrow h2.L (fun cur e => by cases e))
  have hb3 : Below w.heap.size w W3 := h2.below.grown hg3 h2.below.size (fun k e => by cases e; omega)
  obtain ⟨hc3, hf3⟩ := cell_of_box hv3
  clear hW3
  refine ⟨none, W3, hend, ?_⟩
  gi_wp2
  rw [← hs0]
  refine ⟨by simp, .inl ⟨_, _, rfl, run_takeDeferred hK3, ?_⟩⟩
  exact ⟨_, results_tmp rfl _ _ _, v, ss, rfl, hS, hrow3.kept (grownBy_putObj _ _ _) (ownsRow_ne hrow3 hK3 (fun cur e => by cases e))  , hb3.grown (grownBy_putObj _ _ _) hb3.size (fun k e => by cases e; omega)⟩
set_option maxHeartbeats 1000000 in
theorem collect_in (F : Fence) (n : Nat) (h8 : F.fn fCo) (h11 : F.fn fAp) (hro : F.round = none) (hn : 3 ≤ n) (g : Nat) (lb : Array Value) (hFg : F.fn g) (eg : ∀ args w, (callFunc g args).run Tryd.prog w = .ok (.enter g args) w)
  (S : List Nd → Prop) (N : Nat) (hN : N ≤ maxLen) (hNb : N * 32 ≤ 140737488355328) (w : World) (hseq : SeqGives F (n - 1 - 1) Tryd.prog g lb ndV S N w) :
  CallsIn F n Tryd.prog fCo #[.func (.func g) #[] lb] w fun e w' => ∃ (v : Value) (ss : List Nd), e = .returned v ∧ S ss ∧ w'.ownsRow w.heap.size 24 3 v ss.length (ndCs ss) ∧ Below w.heap.size w w' := by
 have h1 : 1 ≤ n := by omega
 refine callsIn_of_wp Tryd.func53 rfl h8 ?_ hro
 simp only [Tryd.ntmps53, List.size_toArray, List.length_cons, List.length_nil, Nat.reduceAdd, Nat.reduceSub, Array.replicate_succ, Array.replicate_zero, List.push_toArray, List.append_toArray, List.nil_append, List.cons_append]
 gi_wp2_with (gi_at_call 65; refine (appendSeq_in F (n - 1) h11 hro (by omega) g lb hFg eg S N hN hNb _ hseq).mono ?_; rintro e w' ⟨v, ss, rfl, hS, hrow, hb⟩)
 go_ret
 exact ⟨v, ss, rfl, hS, hrow, hb⟩
end Go.Proofs.YtgidnkmlnccaiaaDoor.Q
/- A row of nodes in memory, in the sort's words and in append's: plain. -/
namespace Go.Proofs.YtgidnkmlnccaiaaDoor.Q
open Go.RowKit Go.Proofs.YtgidnkmlnccaiaaDoorW.PrintWords Go.Proofs.YtgidnkmlnccaiaaDoorW.PrintLast Go.Proofs.YtgidnkmlnccaiaaDoorW.PrintMore
set_option linter.unusedVariables false
set_option linter.unusedSimpArgs false
open Go.Sort
noncomputable instance : Inhabited Nd := ⟨z24⟩
theorem ndCs_get : ∀ (l : List Nd) (t : Nat), t < l.length * 3 → (ndCs l)[t]? = some ((ndC (l[t / 3]!))[t % 3]!)
 | [], t, h => by simp at h
 | x :: l, t, h => by
  have e : ndCs (x :: l) = ndC x ++ ndCs l := by unfold ndCs; rw [List.flatMap_cons]
  rw [e]
  rcases Nat.lt_or_ge t 3 with h3 | h3
  ·have h0 : t / 3 = 0 := by omega
   have h1 : t % 3 = t := by omega
   rw [h0, h1, List.getElem?_append_left (by simpa [ndC] using h3)]
   have : t = 0 ∨ t = 1 ∨ t = 2 := by omega
   rcases this with rfl | rfl | rfl <;> simp [ndC]
  ·obtain ⟨u, rfl⟩ : ∃ u, t = u + 3 := ⟨t - 3, by omega⟩
   have h0 : (u + 3) / 3 = u / 3 + 1 := by omega
   have h1 : (u + 3) % 3 = u % 3 := by omega
   rw [List.getElem?_append_right (by simp [ndC]), h0, h1]
   have hl : (ndC x).length = 3 := rfl
   rw [hl, Nat.add_sub_cancel, ndCs_get l u (by rw [List.length_cons] at h; omega)]
   simp
theorem flat_eq (d : Array Nd) : flatK ndC 3 d = (ndCs d.toList).toArray := by
 have hsz : (ndCs d.toList).toArray.size = d.size * 3 := by rw [List.size_toArray, ndCs_len, Array.length_toList]
 refine ext_get! (by rw [size_flatK, hsz]) fun t ht0 => ?_
 have ht : t < d.size * 3 := by rw [size_flatK] at ht0; exact ht0
 have h2 : t < (ndCs d.toList).length := by rw [ndCs_len, Array.length_toList]; exact ht
 have e2 := ndCs_get d.toList t (by rw [Array.length_toList]; exact ht)
 rw [List.getElem?_eq_getElem h2] at e2
 injection e2 with e2
 rw [get_flatK ndC 3 d t ht, getElem!_pos _ t (by rw [hsz]; exact ht), List.getElem_toArray, e2]
 have hq : t / 3 < d.size := by omega
 rw [getElem!_pos d _ hq, getElem!_pos d.toList _ (by rw [Array.length_toList]; exact hq), Array.getElem_toList]
/-- Down. -/
theorem holds_of_own {w : World} {base : Nat} {e : TypeId} {v : Value} {n : Nat} {ss : List Nd} (h : w.ownsRow base e 3 v n (ndCs ss)) (hn : ss.length = n) (hpos : 0 < n) :
  ∃ g cap, v = .slice (some ⟨g, 0, none⟩) n cap ∧ base ≤ g ∧ g < w.heap.size ∧ n ≤ cap ∧ HoldsK ndC 3 w g 0 ss.toArray := by
 rcases h.2 with ⟨_, h0⟩ | ⟨g, cap, cur, rfl, hb, hg, hnc, hm, hs, ht⟩
 ·omega
 ·have hlt : g < w.heap.size := (Array.getElem?_eq_some_iff.1 hg).1
  refine ⟨g, cap, rfl, hb, hlt, hnc, ?_⟩
  unfold HoldsK
  rw [flat_eq]
  intro j hj
  rw [List.size_toArray, ndCs_len, List.toList_toArray, hn] at hj
  refine ⟨?_, by simp [World.frozen?, hg]⟩
  have e1 : (cur.toList.take (n * 3))[j]? = (ndCs ss)[j]? := by rw [ht]
  rw [List.getElem?_take, if_pos hj, Array.getElem?_toList] at e1
  simp only [World.cell?, hg, Nat.zero_add]
  simp only [Option.isSome_none, Bool.false_eq_true, if_false]
  have hj2 : j < (ndCs ss).length := by rw [ndCs_len, hn]; exact hj
  rw [e1, List.getElem?_eq_getElem hj2]
  simp [getElem!_pos, hj2]
/-- Up. -/
theorem own_sorted {w : World} {base : Nat} {e : TypeId} {g n cap q : Nat} {os : Array Obj} {ss : List Nd} {d : Array Nd} (h : w.ownsRow base e 3 (.slice (some ⟨g, 0, none⟩) n cap) n (ndCs ss)) (hd : d.size = n) (hpos : 0 < n) :
  (sortWorldK ndC 3 w g 0 q d os).ownsRow base e 3 (.slice (some ⟨g, 0, none⟩) n cap) n (ndCs d.toList) ∧ w.grownBy (sortWorldK ndC 3 w g 0 q d os) (some g) := by
 unfold sortWorldK putRowK
 rw [flat_eq]
 have hgr : w.grownBy (grow (putRow id (Sort.ahead w q) g 0 (ndCs d.toList).toArray) os) (some g) := by
  refine ⟨rfl, rfl, rfl, by simp, fun k hk hne => ?_⟩
  rw [heap_grow_old _ _ (by simpa using hk)]
  have : g ≠ k := fun e => hne (by rw [e])
  simp [putRow, mapBlock, Sort.ahead, Array.getElem?_modify, this]
 refine ⟨?_, hgr⟩
 rcases h.2 with ⟨e0, _⟩ | ⟨g', cap', cur, e0, hb, hg, hn, hm, hs, ht⟩
 ·cases e0
 ·injection e0 with e1 _ e3
  injection e1 with e1
  injection e1 with e1
  subst e1; subst e3
  have hglt : g < w.heap.size := (Array.getElem?_eq_some_iff.1 hg).1
  refine ⟨by rw [ndCs_len, Array.length_toList, hd], .inr ⟨g, cap, putCells id 0 (ndCs d.toList).toArray cur, rfl, hb, ?_, hn, hm, by simpa [putCells] using hs, ?_⟩⟩
  ·rw [heap_grow_old _ _ (by simpa using hglt)]
   simp [putRow, mapBlock, Sort.ahead, Array.getElem?_modify, hg, onCells]
  ·apply List.ext_getElem?
   intro j
   rw [List.getElem?_take, Array.getElem?_toList]
   by_cases hj : j < n * 3
   ·have hjc : j < cur.size := by omega
    have hj2 : j < (ndCs d.toList).length := by rw [ndCs_len, Array.length_toList, hd]; exact hj
    rw [if_pos hj, putCells, Array.getElem?_mapIdx, Array.getElem?_eq_getElem hjc, Option.map_some, if_pos (by simpa using hj2), List.getElem?_eq_getElem hj2]
    simp [getElem!_pos, hj2]
   ·rw [if_neg hj, List.getElem?_eq_none (by rw [ndCs_len, Array.length_toList, hd]; omega)]
end Go.Proofs.YtgidnkmlnccaiaaDoor.Q
/- node.Compare as the sort asks it: nothing but draws and new blocks. The walk is written by wip/tool/genC.py of the printed text. -/
namespace Go.Proofs.YtgidnkmlnccaiaaDoor.Q
open Go.RowKit Go.Proofs.YtgidnkmlnccaiaaDoorW.PrintWords Go.Proofs.YtgidnkmlnccaiaaDoorW.PrintLast Go.Proofs.YtgidnkmlnccaiaaDoorW.PrintMore
set_option linter.unusedVariables false
set_option linter.unusedSimpArgs false
structure GrewD (w w' : World) : Prop where
 mk :: (out : ∃ q os', w' = Go.Sort.grow (w.drewN q) os')
theorem grow_alloc (w : World) (os : Array Obj) (o : Obj) : (Go.Sort.grow w os).alloc o = Go.Sort.grow w (os ++ #[o]) := by
 rw [Go.Sort.alloc_eq_grow, Go.Sort.grow_grow]
theorem GrewD.refl (w : World) : GrewD w w := ⟨0, #[], by rw [Go.Sort.grow_empty]; rfl⟩
theorem GrewD.alloc {w w' : World} (h : GrewD w w') (o : Obj) : GrewD w (w'.alloc o) := by
 obtain ⟨q, os, rfl⟩ := h
 exact ⟨q, os ++ #[o], grow_alloc _ _ _⟩
theorem GrewD.alloc' {w w' : World} {o : Obj} (h : GrewD w w') : GrewD w (w'.alloc o) := h.alloc o
theorem GrewD.drewN' {w w' : World} {n : Nat} (h : GrewD w w') : GrewD w (w'.drewN n) := by
 obtain ⟨q, os, rfl⟩ := h
 exact ⟨q + n, os, by show _ = Go.Sort.grow (w.drewN (q + n)) os; unfold Go.Sort.grow World.drewN; simp [Nat.add_assoc]⟩
theorem GrewD.drew {w w' : World} (h : GrewD w w') : GrewD w w'.drew := h.drewN' (n := 1)
theorem GrewD.size {w w' : World} (h : GrewD w w') : w.heap.size ≤ w'.heap.size := by
 obtain ⟨q, os, rfl⟩ := h
 show w.heap.size ≤ (w.heap ++ os).size
 rw [Array.size_append]; omega
theorem GrewD.step {w a b : World} (h : GrewD w a) (hx : ∃ o, b = a.alloc o) : GrewD w b := by
 obtain ⟨o, rfl⟩ := hx
 exact h.alloc o
section
variable {α : Type} {P : Program} {ops : Array Oper} {o : Oper} {a : Act} {Q : Exit → Act → World → Prop} {Kc : Act → World → Prop}
theorem R_lit_stepX (d : Kd α) {w0 W : World} (base e : Nat) (hw : Region.wanted o (yielded ops a.tmps) = true) {N : Tmp} (hd : o.dst = some N) {xs : List α} {inner : List Value} {ok okp : Nat → Prop}
  (hrun : (execOp a.eval o).run P W = .ok (.value (.slice (some ⟨W.heap.size, 0, none⟩) xs.length xs.length)) (W.alloc (.cells inner.toArray e)))
  (hrep : Reps (d.M W base okp) d.sz xs inner) (hok : ∀ k, okp k → ok k) (hfresh : ok W.heap.size) (HB : Below base w0 W) (hbase : base ≤ W.heap.size) (hm : xs.length ≤ 9223372036854775807)
  (h : ∀ v1 w1, d.R e w1 base ok v1 xs → Below base w0 w1 → (∃ ob, w1 = W.alloc ob) → Kc (a.put o.dst v1) w1) : if Region.wanted o (yielded ops a.tmps) = true then Oper.wp P o a W Kc Q else Kc (a.put o.dst undef) W := by
 refine event_step hw hrun (h _ _ ⟨fun k hk => ?_, inner, ?_, ?_⟩ (HB.alloc hbase _) ⟨_, rfl⟩)
 ·have : W.heap.size = k := by simpa [Value.ownBlock] using hk
  subst this
  exact hfresh
 ·have h2 := World.ownsRow_lit (base := base) (e := e) (size := d.sz) W inner.toArray xs.length hbase (by simpa [maxLen] using hm) (by simpa using hrep.1)
  simpa using h2
 ·refine hrep.imp_ (fun p c hp => d.M_mono (fun k hk => ⟨hok k hk.1, fun he => ?_⟩) (Kd.M_below (d.M_bound hp) (below_alloc (Below.refl _ _) _)))
  have h3 : k = W.heap.size := by simpa [Value.ownBlock] using he
  have := hk.2.2.1
  omega
end
set_option maxHeartbeats 8000000 in
set_option maxRecDepth 100000 in
theorem node_Compare.grows (k : Nat) (a0_0 : Int) (a0_1 : Int) (a0_2 : ByteArray) (a1_0 : Int) (a1_1 : Int) (a1_2 : ByteArray) (r : Int) (w : World) (h : node_Compare.f k a0_0 a0_1 a0_2 a1_0 a1_1 a1_2 = some r) :
  Calls Tryd.prog 12 #[.agg #[.int .i64 a0_0, .int .i64 a0_1, .string a0_2], .agg #[.int .i64 a1_0, .int .i64 a1_1, .string a1_2]] w fun e w' => e = .returned (.int .i64 r) ∧ GrewD w w' := by
 have hu24 := Tryd.underlying24
 have HB := Aside0.mk (GrewD.refl w)
 have H : ((cmp_Compare_int.f a0_0 a1_0).bind fun t151 => ((cmp_Compare_int.f a0_1 a1_1).bind fun t152 => ((cmp_Compare_string.f a0_2 a1_2).bind fun t153 => ((cmp_Or_int.f k (([t151, t152, t153] : List Int))).bind fun t157 => (some t157))))) = some r := h
 clear h
 replace H := Option.bind_eq_some_iff.mp H
 obtain ⟨t151, A30, H⟩ := H
 replace H : ((cmp_Compare_int.f a0_1 a1_1).bind fun t152 => ((cmp_Compare_string.f a0_2 a1_2).bind fun t153 => ((cmp_Or_int.f k (([t151, t152, t153] : List Int))).bind fun t157 => (some t157)))) = some r := H
 have A3 := Aside0.mk A30
 clear A30
 replace H := Option.bind_eq_some_iff.mp H
 obtain ⟨t152, A40, H⟩ := H
 replace H : ((cmp_Compare_string.f a0_2 a1_2).bind fun t153 => ((cmp_Or_int.f k (([t151, t152, t153] : List Int))).bind fun t157 => (some t157))) = some r := H
 have A4 := Aside0.mk A40
 clear A40
 replace H := Option.bind_eq_some_iff.mp H
 obtain ⟨t153, A50, H⟩ := H
 replace H : ((cmp_Or_int.f k (([t151, t152, t153] : List Int))).bind fun t157 => (some t157)) = some r := H
 have A5 := Aside0.mk A50
 clear A50
 obtain ⟨y154, hy154⟩ : ∃ y_ : List Int, y_ = (([t151, t152, t153] : List Int)) := ⟨_, rfl⟩
 replace H : ((cmp_Or_int.f k y154).bind fun t157 => (some t157)) = some r := by first | (rw [hy154]; with_reducible exact H) | (have H2_ := (Option.bind_some _ _).symm.trans H; rw [hy154]; with_reducible exact H2_) | (have H2_ := (Option.bind_some _ _).symm.trans H; with_reducible exact H2_) | with_reducible exact H | (rw [hy154]; exact H) | exact H
 have Ny154 := Aside0.mk hy154
 clear hy154
 replace H := Option.bind_eq_some_iff.mp H
 obtain ⟨t157, A60, H⟩ := H
 replace H : (some t157) = some r := H
 have A6 := Aside0.mk A60
 clear A60
 obtain rfl := Option.some.inj H
 go_enter Tryd.func12, Tryd.ntmps12
 go_upto_region 1 with (fail)
 have BK149 : Aside0 (((w.alloc (.cells #[.int .i64 a0_0, .int .i64 a0_1, .string a0_2] 24)).alloc (.cells #[.int .i64 a1_0, .int .i64 a1_1, .string a1_2] 24)).drew.heap[w.heap.size]? = some (.cells #[.int .i64 a0_0, .int .i64 a0_1, .string a0_2] 24 (0, 0))) := ⟨blk_drew (blk_alloc (blk_new _ _) _)⟩
 have BK150 : Aside0 (((w.alloc (.cells #[.int .i64 a0_0, .int .i64 a0_1, .string a0_2] 24)).alloc (.cells #[.int .i64 a1_0, .int .i64 a1_1, .string a1_2] 24)).drew.heap[w.heap.size + 1]? = some (.cells #[.int .i64 a1_0, .int .i64 a1_1, .string a1_2] 24 (0, 0))) := ⟨by
  have := blk_drew (blk_new (w.alloc (.cells #[.int .i64 a0_0, .int .i64 a0_1, .string a0_2] 24)) (.cells #[.int .i64 a1_0, .int .i64 a1_1, .string a1_2] 24))
  rw [World.size_alloc] at this
  exact this⟩
 have n0_ := Aside0.mk (GrewD.drew ((HB.out.alloc (.cells #[.int .i64 a0_0, .int .i64 a0_1, .string a0_2] 24)).alloc (.cells #[.int .i64 a1_0, .int .i64 a1_1, .string a1_2] 24)))
 clear HB
 have HB := n0_
 clear n0_
 generalize ((w.alloc (.cells #[.int .i64 a0_0, .int .i64 a0_1, .string a0_2] 24)).alloc (.cells #[.int .i64 a1_0, .int .i64 a1_1, .string a1_2] 24)) = w8 at BK149 BK150 HB ⊢
 generalize w.heap.size + 1 = gb150 at BK150 ⊢
 generalize hgb_ : w.heap.size = gb149 at BK149 ⊢
 refine start_ (n := 18) (S := fun w' => w'.cell? ⟨gb149, 0, none⟩ = some (.int .i64 a0_0) ∧ w'.cell? ⟨gb149, 1, none⟩ = some (.int .i64 a0_1) ∧ w'.cell? ⟨gb149, 2, none⟩ = some (.string a0_2) ∧ w'.cell? ⟨gb150, 0, none⟩ = some (.int .i64 a1_0) ∧ w'.cell? ⟨gb150, 1, none⟩ = some (.int .i64 a1_1) ∧ w'.cell? ⟨gb150, 2, none⟩ = some (.string a1_2)) (ds := []) #[false, false, false, false, false, false, false, false, false, false, false, false, false, false, false, false, false, false] (by kernel_rfl) rfl rfl ⟨(blk_cell BK149.out 0).trans rfl, (blk_cell BK149.out 1).trans rfl, (blk_cell BK149.out 2).trans rfl, (blk_cell BK150.out 0).trans rfl, (blk_cell BK150.out 1).trans rfl, (blk_cell BK150.out 2).trans rfl⟩ (fun hHeld => ?_); refine with_tabW node_Compare.tab1 node_Compare.bits1 (fun HT_ HW_ => ?_)
 generalize w8.drew = w9 at BK149 BK150 HB hHeld ⊢
 refine pure_ (i := 0) (N := some 5) (v := ?_) (a' := ?_) #[true, false, false, false, false, false, false, false, false, false, false, false, false, false, false, false, false, false] rfl rfl (any_of HT_.out (by kernel_rfl)) (fun _ _ _ h => h) (Or.inl ⟨by rfl, ?_⟩) ?_ ?_
 rotate_left
 ·intro w'
  go_simp
  with_reducible rfl
 rotate_left
 ·simp only [Act.put, List.setIfInBounds_toArray, List.set_cons_zero, List.set_cons_succ, i64_w, i32_w]
  rfl
 refine pure_ (i := 2) (N := some 7) (v := ?_) (a' := ?_) #[true, false, true, false, false, false, false, false, false, false, false, false, false, false, false, false, false, false] rfl rfl (any_of HT_.out (by kernel_rfl)) (fun _ _ _ h => h) (Or.inl ⟨by rfl, ?_⟩) ?_ ?_
 rotate_left
 ·intro w'
  go_simp
  with_reducible rfl
 rotate_left
 ·simp only [Act.put, List.setIfInBounds_toArray, List.set_cons_zero, List.set_cons_succ, i64_w, i32_w]
  rfl
 refine pure_ (i := 5) (N := some 10) (v := ?_) (a' := ?_) #[true, false, true, false, false, true, false, false, false, false, false, false, false, false, false, false, false, false] rfl rfl (any_of HT_.out (by kernel_rfl)) (fun _ _ _ h => h) (Or.inl ⟨by rfl, ?_⟩) ?_ ?_
 rotate_left
 ·intro w'
  go_simp
  with_reducible rfl
 rotate_left
 ·simp only [Act.put, List.setIfInBounds_toArray, List.set_cons_zero, List.set_cons_succ, i64_w, i32_w]
  rfl
 refine pure_ (i := 7) (N := some 12) (v := ?_) (a' := ?_) #[true, false, true, false, false, true, false, true, false, false, false, false, false, false, false, false, false, false] rfl rfl (any_of HT_.out (by kernel_rfl)) (fun _ _ _ h => h) (Or.inl ⟨by rfl, ?_⟩) ?_ ?_
 rotate_left
 ·intro w'
  go_simp
  with_reducible rfl
 rotate_left
 ·simp only [Act.put, List.setIfInBounds_toArray, List.set_cons_zero, List.set_cons_succ, i64_w, i32_w]
  rfl
 refine pure_ (i := 10) (N := some 15) (v := ?_) (a' := ?_) #[true, false, true, false, false, true, false, true, false, false, true, false, false, false, false, false, false, false] rfl rfl (any_of HT_.out (by kernel_rfl)) (fun _ _ _ h => h) (Or.inl ⟨by rfl, ?_⟩) ?_ ?_
 rotate_left
 ·intro w'
  go_simp
  with_reducible rfl
 rotate_left
 ·simp only [Act.put, List.setIfInBounds_toArray, List.set_cons_zero, List.set_cons_succ, i64_w, i32_w]
  rfl
 refine pure_ (i := 12) (N := some 17) (v := ?_) (a' := ?_) #[true, false, true, false, false, true, false, true, false, false, true, false, true, false, false, false, false, false] rfl rfl (any_of HT_.out (by kernel_rfl)) (fun _ _ _ h => h) (Or.inl ⟨by rfl, ?_⟩) ?_ ?_
 rotate_left
 ·intro w'
  go_simp
  with_reducible rfl
 rotate_left
 ·simp only [Act.put, List.setIfInBounds_toArray, List.set_cons_zero, List.set_cons_succ, i64_w, i32_w]
  rfl
 refine take_ (i := 1) (N := some 6) (v := ?_) (a' := ?_) #[true, true, true, false, false, true, false, true, false, false, true, false, true, false, false, false, false, false] rfl rfl (take_ofW HT_.out HW_.out (by kernel_rfl)) (fun _ _ _ h => h) (Or.inl ⟨by rfl, ?_⟩) hHeld ?_ ?_
 rotate_left
 ·rintro w' ⟨s0, s1, s2, s3, s4, s5⟩
  go_simp
  with_reducible rfl
 rotate_left
 ·simp only [Act.put, List.setIfInBounds_toArray, List.set_cons_zero, List.set_cons_succ, i64_w, i32_w]
  rfl
 refine take_ (i := 3) (N := some 8) (v := ?_) (a' := ?_) #[true, true, true, true, false, true, false, true, false, false, true, false, true, false, false, false, false, false] rfl rfl (take_ofW HT_.out HW_.out (by kernel_rfl)) (fun _ _ _ h => h) (Or.inl ⟨by rfl, ?_⟩) hHeld ?_ ?_
 rotate_left
 ·rintro w' ⟨s0, s1, s2, s3, s4, s5⟩
  go_simp
  with_reducible rfl
 rotate_left
 ·simp only [Act.put, List.setIfInBounds_toArray, List.set_cons_zero, List.set_cons_succ, i64_w, i32_w]
  rfl
 refine take_ (i := 6) (N := some 11) (v := ?_) (a' := ?_) #[true, true, true, true, false, true, true, true, false, false, true, false, true, false, false, false, false, false] rfl rfl (take_ofW HT_.out HW_.out (by kernel_rfl)) (fun _ _ _ h => h) (Or.inl ⟨by rfl, ?_⟩) hHeld ?_ ?_
 rotate_left
 ·rintro w' ⟨s0, s1, s2, s3, s4, s5⟩
  go_simp
  with_reducible rfl
 rotate_left
 ·simp only [Act.put, List.setIfInBounds_toArray, List.set_cons_zero, List.set_cons_succ, i64_w, i32_w]
  rfl
 refine take_ (i := 8) (N := some 13) (v := ?_) (a' := ?_) #[true, true, true, true, false, true, true, true, true, false, true, false, true, false, false, false, false, false] rfl rfl (take_ofW HT_.out HW_.out (by kernel_rfl)) (fun _ _ _ h => h) (Or.inl ⟨by rfl, ?_⟩) hHeld ?_ ?_
 rotate_left
 ·rintro w' ⟨s0, s1, s2, s3, s4, s5⟩
  go_simp
  with_reducible rfl
 rotate_left
 ·simp only [Act.put, List.setIfInBounds_toArray, List.set_cons_zero, List.set_cons_succ, i64_w, i32_w]
  rfl
 refine take_ (i := 11) (N := some 16) (v := ?_) (a' := ?_) #[true, true, true, true, false, true, true, true, true, false, true, true, true, false, false, false, false, false] rfl rfl (take_ofW HT_.out HW_.out (by kernel_rfl)) (fun _ _ _ h => h) (Or.inl ⟨by rfl, ?_⟩) hHeld ?_ ?_
 rotate_left
 ·rintro w' ⟨s0, s1, s2, s3, s4, s5⟩
  go_simp
  with_reducible rfl
 rotate_left
 ·simp only [Act.put, List.setIfInBounds_toArray, List.set_cons_zero, List.set_cons_succ, i64_w, i32_w]
  rfl
 refine take_ (i := 13) (N := some 18) (v := ?_) (a' := ?_) #[true, true, true, true, false, true, true, true, true, false, true, true, true, true, false, false, false, false] rfl rfl (take_ofW HT_.out HW_.out (by kernel_rfl)) (fun _ _ _ h => h) (Or.inl ⟨by rfl, ?_⟩) hHeld ?_ ?_
 rotate_left
 ·rintro w' ⟨s0, s1, s2, s3, s4, s5⟩
  go_simp
  with_reducible rfl
 rotate_left
 ·simp only [Act.put, List.setIfInBounds_toArray, List.set_cons_zero, List.set_cons_succ, i64_w, i32_w]
  rfl
 refine one_ (i := 4) (N := some 9) #[true, true, true, true, true, true, true, true, true, false, true, true, true, true, false, false, false, false] rfl rfl (one_of HT_.out (by kernel_rfl)) (by decide) (fun K hK => ?_)
 refine goes_ Tryd.func34 (by kernel_rfl) rfl #[.int .i64 a0_0, .int .i64 a1_0] (by rfl) rfl rfl (by (try simp only [List.map_toArray, List.map_cons, List.map_nil]); first | done | rfl | (simp only [List.length_drop, List.length_take]; rfl)) ?_
 with_reducible refine (cmp_Compare_int.calls a0_0 a1_0 t151 _ A3.out).mono ?_
 rintro e w' ⟨rfl, ⟨nd, rfl⟩⟩
 refine ⟨_, rfl, ?_⟩
 refine hK.out _ _ ⟨(blk_cell BK149.out 0).trans rfl, (blk_cell BK149.out 1).trans rfl, (blk_cell BK149.out 2).trans rfl, (blk_cell BK150.out 0).trans rfl, (blk_cell BK150.out 1).trans rfl, (blk_cell BK150.out 2).trans rfl⟩ (fun hHeld => ?_)
 clear hK K
 refine norm_ (a' := ?_) ?_ ?_
 rotate_left
 ·show Act.put _ (some 9) _ = _
  simp only [Act.put, List.setIfInBounds_toArray, List.set_cons_zero, List.set_cons_succ, i64_w, i32_w]
  rfl
 refine one_ (i := 9) (N := some 14) #[true, true, true, true, true, true, true, true, true, true, true, true, true, true, false, false, false, false] rfl rfl (one_of HT_.out (by kernel_rfl)) (by decide) (fun K hK => ?_)
 refine goes_ Tryd.func34 (by kernel_rfl) rfl #[.int .i64 a0_1, .int .i64 a1_1] (by rfl) rfl rfl (by (try simp only [List.map_toArray, List.map_cons, List.map_nil]); first | done | rfl | (simp only [List.length_drop, List.length_take]; rfl)) ?_
 with_reducible refine (cmp_Compare_int.calls a0_1 a1_1 t152 _ A4.out).mono ?_
 rintro e w' ⟨rfl, ⟨nd, rfl⟩⟩
 refine ⟨_, rfl, ?_⟩
 refine hK.out _ _ ⟨(blk_cell BK149.out 0).trans rfl, (blk_cell BK149.out 1).trans rfl, (blk_cell BK149.out 2).trans rfl, (blk_cell BK150.out 0).trans rfl, (blk_cell BK150.out 1).trans rfl, (blk_cell BK150.out 2).trans rfl⟩ (fun hHeld => ?_)
 clear hK K
 refine norm_ (a' := ?_) ?_ ?_
 rotate_left
 ·show Act.put _ (some 14) _ = _
  simp only [Act.put, List.setIfInBounds_toArray, List.set_cons_zero, List.set_cons_succ, i64_w, i32_w]
  rfl
 refine one_ (i := 14) (N := some 19) #[true, true, true, true, true, true, true, true, true, true, true, true, true, true, true, false, false, false] rfl rfl (one_of HT_.out (by kernel_rfl)) (by decide) (fun K hK => ?_)
 refine goes_ Tryd.func35 (by kernel_rfl) rfl #[.string a0_2, .string a1_2] (by rfl) rfl rfl (by (try simp only [List.map_toArray, List.map_cons, List.map_nil]); first | done | rfl | (simp only [List.length_drop, List.length_take]; rfl)) ?_
 with_reducible refine (cmp_Compare_string.calls a0_2 a1_2 t153 _ A5.out).mono ?_
 rintro e w' ⟨rfl, ⟨nd, rfl⟩⟩
 refine ⟨_, rfl, ?_⟩
 refine hK.out _ _ ⟨(blk_cell BK149.out 0).trans rfl, (blk_cell BK149.out 1).trans rfl, (blk_cell BK149.out 2).trans rfl, (blk_cell BK150.out 0).trans rfl, (blk_cell BK150.out 1).trans rfl, (blk_cell BK150.out 2).trans rfl⟩ (fun hHeld => ?_)
 clear hK K
 refine norm_ (a' := ?_) ?_ ?_
 rotate_left
 ·show Act.put _ (some 19) _ = _
  simp only [Act.put, List.setIfInBounds_toArray, List.set_cons_zero, List.set_cons_succ, i64_w, i32_w]
  rfl
 refine one_ (i := 15) (N := some 20) #[true, true, true, true, true, true, true, true, true, true, true, true, true, true, true, true, false, false] rfl rfl (one_of HT_.out (by kernel_rfl)) (by decide) (fun K hK => ?_)
 refine R_lit_stepX (Kd.int .i64) _ 3 ?hg (N := 20) ?hd (xs := ([t151, t152, t153] : List Int)) (inner := [.int .i64 t151, .int .i64 t152, .int .i64 t153]) (ok := fun _ => True) (okp := fun _ => True) ?hr ?hp (fun _ hk => hk) trivial (Below.refl _ _) (Nat.le_refl _) (by simp) ?_; (case hd => rfl); (case hg => rfl); (case hr => first | (go_simp; done) | (go_simp; rfl)); (case hp => exact (Reps.one (show Kd.M (Kd.int .i64) _ _ _ t151 [.int .i64 t151] from rfl) (Reps.one (show Kd.M (Kd.int .i64) _ _ _ t152 [.int .i64 t152] from rfl) (Reps.one (show Kd.M (Kd.int .i64) _ _ _ t153 [.int .i64 t153] from rfl) (Reps.none _ _)))))
 intro v155 w10 ho11 hb hx_
 (first | rw [← Ny154.out] at ho11 | (simp only [Int.reduceToNat] at ho11; rw [← Ny154.out] at ho11))
 have n0_ := Aside0.mk (Kd.R_lower ho11 (GrewD.size (by repeat (first | (with_reducible first | exact HB.out | apply GrewD.alloc' | apply GrewD.drewN' | apply GrewD.drew) | exact HB.out))))
 have n1_ := Aside0.mk (blk_below (g := gb149) (o := .cells #[.int .i64 a0_0, .int .i64 a0_1, .string a0_2] 24 (0, 0)) (by (with_reducible repeat (first | refine blk_drewN ?_ _ | refine blk_drew ?_ | refine blk_alloc ?_ _)); exact BK149.out) hb)
 have n2_ := Aside0.mk (blk_below (g := gb150) (o := .cells #[.int .i64 a1_0, .int .i64 a1_1, .string a1_2] 24 (0, 0)) (by (with_reducible repeat (first | refine blk_drewN ?_ _ | refine blk_drew ?_ | refine blk_alloc ?_ _)); exact BK150.out) hb)
 have n3_ := Aside0.mk (GrewD.step (by repeat (first | (with_reducible first | exact HB.out | apply GrewD.alloc' | apply GrewD.drewN' | apply GrewD.drew) | exact HB.out)) hx_)
 clear BK149
 clear BK150
 clear HB
 have HO156 := n0_
 have BK149 := n1_
 have BK150 := n2_
 have HB := n3_
 clear n0_ n1_ n2_ n3_
 clear hb hx_ ho11
 obtain ⟨Ao12, co12, eo12⟩ := Kd.R_slice HO156.out
 (first | subst eo12 | (injection eo12 with f1_ f2_ f3_; have f4_ := f1_.symm; have f5_ := f3_.symm; clear f1_ f2_ f3_; subst f4_; subst f5_))
 refine hK.out _ _ ⟨(blk_cell BK149.out 0).trans rfl, (blk_cell BK149.out 1).trans rfl, (blk_cell BK149.out 2).trans rfl, (blk_cell BK150.out 0).trans rfl, (blk_cell BK150.out 1).trans rfl, (blk_cell BK150.out 2).trans rfl⟩ (fun hHeld => ?_)
 clear hK K
 refine norm_ (a' := ?_) ?_ ?_
 rotate_left
 ·show Act.put _ (some 20) _ = _
  simp only [Act.put, List.setIfInBounds_toArray, List.set_cons_zero, List.set_cons_succ, i64_w, i32_w]
  rfl
 refine one_ (i := 16) (N := some 21) #[true, true, true, true, true, true, true, true, true, true, true, true, true, true, true, true, true, false] rfl rfl (one_of HT_.out (by kernel_rfl)) (by decide) (fun K hK => ?_)
 refine goes_ Tryd.func33 (by kernel_rfl) rfl #[.slice Ao12 y154.length co12] (by rfl) rfl rfl (by (try simp only [List.map_toArray, List.map_cons, List.map_nil]); first | done | rfl | (simp only [List.length_drop, List.length_take]; rfl)) ?_
 with_reducible refine (cmp_Or_int.calls k _ _ y154 t157 _ ?side1 ?side2 A6.out).mono ?_
 (case side1 => repeat (first | exact (Kd.R_reads' HO156.out).2.2 | (with_reducible refine Kd.C_alloc ?_ _) | (with_reducible refine Kd.C_drewN ?_ _) | (with_reducible refine Kd.C_drew ?_)))
 (case side2 => exact (Kd.R_reads' HO156.out).2.1)
 rintro e w' ⟨rfl, ⟨nd, rfl⟩⟩
 refine ⟨_, rfl, ?_⟩
 refine hK.out _ _ ⟨(blk_cell BK149.out 0).trans rfl, (blk_cell BK149.out 1).trans rfl, (blk_cell BK149.out 2).trans rfl, (blk_cell BK150.out 0).trans rfl, (blk_cell BK150.out 1).trans rfl, (blk_cell BK150.out 2).trans rfl⟩ (fun hHeld => ?_)
 clear hK K
 refine norm_ (a' := ?_) ?_ ?_
 rotate_left
 ·show Act.put _ (some 21) _ = _
  simp only [Act.put, List.setIfInBounds_toArray, List.set_cons_zero, List.set_cons_succ, i64_w, i32_w]
  rfl
 refine pure_ (i := 17) (N := some 4) (v := ?_) (a' := ?_) #[true, true, true, true, true, true, true, true, true, true, true, true, true, true, true, true, true, true] rfl rfl (any_of HT_.out (by kernel_rfl)) (fun _ _ _ h => h) (Or.inl ⟨by rfl, ?_⟩) ?_ ?_
 rotate_left
 ·intro w'
  go_simp
  with_reducible rfl
 rotate_left
 ·simp only [Act.put, List.setIfInBounds_toArray, List.set_cons_zero, List.set_cons_succ, i64_w, i32_w]
  rfl
 refine done_ (done_of HT_.out (by kernel_rfl)) ?_
 try go_wp2
 go_ret
 exact ⟨by first | rfl | (simp [errW_none, errW_some] <;> rfl) | (simp [*, errW_none, errW_some] <;> rfl), by repeat (first | (with_reducible first | exact HB.out | apply GrewD.alloc' | apply GrewD.drewN' | apply GrewD.drew) | exact HB.out)⟩
end Go.Proofs.YtgidnkmlnccaiaaDoor.Q
/- The order of nodes as node.Compare tells it. -/
namespace Go.Proofs.YtgidnkmlnccaiaaDoor.Q
open Go.RowKit Go.Proofs.YtgidnkmlnccaiaaDoorW.PrintWords Go.Proofs.YtgidnkmlnccaiaaDoorW.PrintLast Go.Proofs.YtgidnkmlnccaiaaDoorW.PrintMore
set_option linter.unusedVariables false
set_option linter.unusedSimpArgs false
open Go.Sort (SWO)
def cmpN (a b : Nd) : Int := if ltN a b = true then -1 else if ltN b a = true then 1 else 0
def cmpI (a b : Int) : Int := if a < b then -1 else if b < a then 1 else 0
theorem cmpI_f (a b : Int) : cmp_Compare_int.f a b = some (cmpI a b) := by
 have h1 : ∀ x : Int, cmp_isNaN_int.f x = some false := fun x => by simp [cmp_isNaN_int.f]
 unfold cmp_Compare_int.f cmpI
 rw [h1, h1]
 simp only [Option.bind_some]
 rw [if_neg (by decide), if_neg (by decide)]
 by_cases h : a < b
 ·rw [if_pos h, if_pos h]
 ·rw [if_neg h, if_neg h]
  by_cases h2 : b < a
  ·rw [if_pos h2, if_pos (show a > b from h2)]
  ·rw [if_neg h2, if_neg (show ¬ a > b from h2)]
def orI (l : List Int) : Int := (l.find? (fun x => decide (x ≠ 0))).getD 0
theorem orI_f (a b c : Int) : cmp_Or_int.f 4 [a, b, c] = some (orI [a, b, c]) := by
 unfold cmp_Or_int.f orI
 have w1 : wrap64 (0 + 1) = 1 := by kernel_rfl
 have w2 : wrap64 (1 + 1) = 2 := by kernel_rfl
 have w3 : wrap64 (2 + 1) = 3 := by kernel_rfl
 have r0 : rd [a, b, c] 0 = a := rfl
 have r1 : rd [a, b, c] 1 = b := rfl
 have r2 : rd [a, b, c] 2 = c := rfl
 simp only [cmp_Or_int.l0, List.length_cons, List.length_nil, w1, w2, w3, r0, r1, r2]
 by_cases ha : a = 0 <;> by_cases hb : b = 0 <;> by_cases hc : c = 0 <;> simp [ha, hb, hc, List.find?]
theorem orI_cons (x : Int) (l : List Int) : orI (x :: l) = if x = 0 then orI l else x := by
 unfold orI
 rw [List.find?_cons]
 by_cases h : x = 0 <;> simp [h]
theorem cmpN_eq (a b : Nd) : orI [cmpI a.f0 b.f0, cmpI a.f1 b.f1, cmpS a.f2.toList b.f2.toList] = cmpN a b := by
 rw [orI_cons, orI_cons, orI_cons]
 unfold cmpN ltN cmpI cmpS
 rcases Int.lt_trichotomy a.f0 b.f0 with h | h | h
 ·have h2 : ¬ b.f0 < a.f0 := by omega
  have h3 : ¬ a.f0 = b.f0 := by omega
  simp [h, h3]
 ·rw [if_neg (show ¬ a.f0 < b.f0 by omega), if_neg (show ¬ b.f0 < a.f0 by omega), if_pos rfl, if_pos h, if_pos h.symm]
  rcases Int.lt_trichotomy a.f1 b.f1 with k | k | k
  ·have h3 : ¬ a.f1 = b.f1 := by omega
   simp [k, h3]
  ·rw [if_neg (show ¬ a.f1 < b.f1 by omega), if_neg (show ¬ b.f1 < a.f1 by omega), if_pos rfl, if_pos k, if_pos k.symm]
   cases h1 : Op.bytesLess a.f2.toList b.f2.toList <;> cases h2 : Op.bytesLess b.f2.toList a.f2.toList <;> simp [orI]
  ·have h2 : ¬ a.f1 < b.f1 := by omega
   have h3 : ¬ a.f1 = b.f1 := by omega
   have h4 : ¬ b.f1 = a.f1 := by omega
   simp [k, h2, h3, h4]
 ·have h2 : ¬ a.f0 < b.f0 := by omega
  have h3 : ¬ a.f0 = b.f0 := by omega
  have h4 : ¬ b.f0 = a.f0 := by omega
  simp [h, h2, h3, h4]
theorem cmpN_f (a b : Nd) : node_Compare.f 4 a.f0 a.f1 a.f2 b.f0 b.f1 b.f2 = some (cmpN a b) := by
 unfold node_Compare.f cmp_Compare_string.f
 rw [cmpI_f, cmpI_f]
 simp only [Option.bind_some]
 rw [orI_f, cmpN_eq]; rfl
theorem cmpN_lt (a b : Nd) : decide (cmpN a b < 0) = ltN a b := by
 unfold cmpN
 cases h : ltN a b
 ·rw [if_neg (by decide)]
  cases ltN b a <;> decide
 ·rw [if_pos rfl]; rfl
theorem ltN_swo : SWO ltN where
 irrefl := ltN_irrefl
 trans x y z h1 h2 := ltN_trans h1 h2
 ntrans x y z h1 h2 := by
  cases h : ltN x z
  ·rfl
  ·exfalso
   cases h3 : ltN y x
   ·rw [ltN_total h1 h3] at h; rw [h2] at h; cases h
   ·have := ltN_trans h3 h
    rw [h2] at this; cases this
end Go.Proofs.YtgidnkmlnccaiaaDoor.Q
-- (laid by the kit's shelf_lay_g and lay-plain at this seat's dump)
/- slices.SortFunc of nodes: the library's structure at this program. -/
namespace Go.Proofs
open Go.Shelf
def Tryd.sortNd_ren : Go.Shelf.Ren := ⟨fun | 6 => 54 | 15 => 67 | 14 => 66 | 28 => 89 | 29 => 90 | 20 => 81 | 21 => 82 | 22 => 83 | 23 => 84 | 24 => 85 | 25 => 86 | 26 => 87 | 27 => 88 | 46 => 96 | 47 => 97 | 48 => 98 | 49 => 99 | 50 => 100 | 57 => 103 | n => n, fun | 22 => 45 | 24 => 24 | 25 => 36 | 3 => 3 | 39 => 107 | 0 => 0 | 53 => 130 | 55 => 114 | 4 => 4 | 46 => 124 | 45 => 123 | 50 => 65 | 5 => 5 | 9 => 9 | 66 => 136 | 70 => 140 | 76 => 142 | 77 => 143 | n => n, fun | n => n⟩
theorem Tryd.sortNd : Go.Proofs.SlLaysF0.n6 Tryd.prog Tryd.sortNd_ren := {
 mixed := by kernel_rfl
 f6 := ⟨Tryd.f54.name, by decide, Tryd.func54.trans (congrArg some (by kernel_rfl))⟩
 f14 := ⟨Tryd.f66.name, by decide, Tryd.func66.trans (congrArg some (by kernel_rfl))⟩
 f15 := Tryd.func67.trans (congrArg some (by kernel_rfl))
 f20 := ⟨Tryd.f81.name, by decide, Tryd.func81.trans (congrArg some (by kernel_rfl))⟩
 f21 := ⟨Tryd.f82.name, by decide, Tryd.func82.trans (congrArg some (by kernel_rfl))⟩
 f22 := ⟨Tryd.f83.name, by decide, Tryd.func83.trans (congrArg some (by kernel_rfl))⟩
 f23 := ⟨Tryd.f84.name, by decide, Tryd.func84.trans (congrArg some (by kernel_rfl))⟩
 f24 := ⟨Tryd.f85.name, by decide, Tryd.func85.trans (congrArg some (by kernel_rfl))⟩
 f25 := ⟨Tryd.f86.name, by decide, Tryd.func86.trans (congrArg some (by kernel_rfl))⟩
 f26 := ⟨Tryd.f87.name, by decide, Tryd.func87.trans (congrArg some (by kernel_rfl))⟩
 f27 := ⟨Tryd.f88.name, by decide, Tryd.func88.trans (congrArg some (by kernel_rfl))⟩
 f28 := Tryd.func89.trans (congrArg some (by kernel_rfl))
 f29 := Tryd.func90.trans (congrArg some (by kernel_rfl))
 f46 := ⟨Tryd.f96.name, by decide, Tryd.func96.trans (congrArg some (by kernel_rfl))⟩
 f47 := Tryd.func97.trans (congrArg some (by kernel_rfl))
 f48 := Tryd.func98.trans (congrArg some (by kernel_rfl))
 f49 := ⟨Tryd.f99.name, by decide, Tryd.func99.trans (congrArg some (by kernel_rfl))⟩
 f50 := ⟨Tryd.f100.name, by decide, Tryd.func100.trans (congrArg some (by kernel_rfl))⟩
 f57 := ⟨Tryd.f103.name, by decide, Tryd.func103.trans (congrArg some (by kernel_rfl))⟩
 t0 := Tryd.underlying0
 a0 := Tryd.isAgg0
 z0 := Tryd.sizeOf0
 v0 := Tryd.zeroValue0
 t3 := Tryd.underlying3
 a3 := Tryd.isAgg3
 z3 := Tryd.sizeOf3
 v3 := Tryd.zeroValue3
 t4 := Tryd.underlying4
 a4 := Tryd.isAgg4
 z4 := Tryd.sizeOf4
 v4 := Tryd.zeroValue4
 t5 := Tryd.underlying5
 a5 := Tryd.isAgg5
 z5 := Tryd.sizeOf5
 v5 := Tryd.zeroValue5
 t9 := Tryd.underlying9
 a9 := Tryd.isAgg9
 z9 := Tryd.sizeOf9
 v9 := Tryd.zeroValue9
 t22 := Tryd.underlying45
 a22 := Tryd.isAgg45
 z22 := Tryd.sizeOf45
 v22 := Tryd.zeroValue45
 t25 := Tryd.underlying36
 a25 := Tryd.isAgg36
 z25 := Tryd.sizeOf36
 v25 := Tryd.zeroValue36
 t39 := Tryd.underlying107
 a39 := Tryd.isAgg107
 z39 := Tryd.sizeOf107
 v39 := Tryd.zeroValue107
 t45 := Tryd.underlying123
 a45 := Tryd.isAgg123
 z45 := Tryd.sizeOf123
 v45 := Tryd.zeroValue123
 t46 := Tryd.underlying124
 a46 := Tryd.isAgg124
 z46 := Tryd.sizeOf124
 v46 := Tryd.zeroValue124
 t50 := Tryd.underlying65
 a50 := Tryd.isAgg65
 z50 := Tryd.sizeOf65
 v50 := Tryd.zeroValue65
 t53 := Tryd.underlying130
 a53 := Tryd.isAgg130
 z53 := Tryd.sizeOf130
 v53 := Tryd.zeroValue130
 t55 := Tryd.underlying114
 a55 := Tryd.isAgg114
 z55 := Tryd.sizeOf114
 v55 := Tryd.zeroValue114
 t66 := Tryd.underlying136
 a66 := Tryd.isAgg136
 z66 := Tryd.sizeOf136
 v66 := Tryd.zeroValue136
 t70 := Tryd.underlying140
 a70 := Tryd.isAgg140
 z70 := Tryd.sizeOf140
 v70 := Tryd.zeroValue140
 t76 := Tryd.underlying142
 a76 := Tryd.isAgg142
 z76 := Tryd.sizeOf142
 v76 := Tryd.zeroValue142
 t77 := Tryd.underlying143
 a77 := Tryd.isAgg143
 z77 := Tryd.sizeOf143
 v77 := Tryd.zeroValue143 }
end Go.Proofs
/- slices.SortFunc, SortedFunc, Set.List: by hand. -/
namespace Go.Proofs.YtgidnkmlnccaiaaDoor.Q
open Go.RowKit Go.Proofs.YtgidnkmlnccaiaaDoorW.PrintWords Go.Proofs.YtgidnkmlnccaiaaDoorW.PrintLast Go.Proofs.YtgidnkmlnccaiaaDoorW.PrintMore
set_option linter.unusedVariables false
set_option linter.unusedSimpArgs false
open Go.Shelf Go.Lib Go.Sort
abbrev fSo : Nat := 54
abbrev fCm : Nat := 12
theorem ltOf_cmpN : ltOf cmpN = ltN := by
 funext x y
 exact cmpN_lt x y
theorem cmpLaysNd (blk off size : Nat) (w : World) : CmpLays Tryd.prog fCm #[] ndC 3 cmpN blk off size w := fun _ _ _ _ x y =>
 (node_Compare.grows 4 x.f0 x.f1 x.f2 y.f0 y.f1 y.f2 (cmpN x y) _ (cmpN_f x y)).mono fun _ _ h => ⟨h.1, h.2.out⟩
theorem sort_Nd (v : Value) (n base : Nat) (ss : List Nd) (w : World) (h : w.ownsRow base 24 3 v n (ndCs ss)) (hn : ss.length = n) (hlen : n ≤ 1000000) :
  Calls Tryd.prog fSo #[v, .func (.func fCm) #[] #[]] w fun e w' => e = .returned (.tuple #[]) ∧ ∃ ss' : List Nd, ss'.Perm ss ∧ ss'.Pairwise (fun a b => ltN b a = false) ∧ w'.ownsRow base 24 3 v n (ndCs ss') ∧ w.grownBy w' v.ownBlock := by
 have eg : ∀ args w, (callFunc fCm args).run Tryd.prog w = .ok (.enter fCm args) w := enters_of Tryd.func12 (by kernel_rfl) rfl
 rcases Nat.eq_zero_or_pos n with h0 | hpos
 ·subst h0
  have he : ss = [] := List.length_eq_zero_iff.mp hn
  subst he
  obtain ⟨A, c, rfl⟩ := own_slice h
  have hcon := AnyF.slices_SortFunc_none Tryd.sortNd A c (.func (.func fCm) #[] #[]) w
  change Calls Tryd.prog fSo _ _ _ at hcon
  refine hcon.mono ?_
  rintro e w' ⟨rfl, rfl⟩
  exact ⟨rfl, [], List.Perm.refl _, List.Pairwise.nil, h, ⟨rfl, rfl, rfl, Nat.le_refl _, fun _ _ _ => rfl⟩⟩
 ·obtain ⟨g, cap, rfl, hb, hg, hc, hH⟩ := holds_of_own h hn hpos
  have hs : ss.toArray.size = n := by rw [List.size_toArray]; exact hn
  have hcon := AnyQ.slices_SortFunc Tryd.sortNd 3 Tryd.isAgg24 Tryd.sizeOf24 ndC (fun _ => rfl) (fun x v hv => by simp [ndC] at hv; rcases hv with rfl | rfl | rfl <;> rfl) cmpN (by rw [ltOf_cmpN]; exact ltN_swo) fCm #[] g 0 cap ss.toArray w eg (cmpLaysNd g 0 ss.toArray.size w) hH hg (by rw [hs]; omega)
  change Calls Tryd.prog fSo _ _ _ at hcon
  rw [hs] at hcon
  refine hcon.mono ?_
  rintro e w' ⟨rfl, d', q, os, hp, hso, rfl⟩
  have hd : d'.size = n := by rw [hp.1, hs]
  obtain ⟨h1, h2⟩ := own_sorted (q := q) (os := os) h hd hpos
  refine ⟨rfl, d'.toList, ?_, ?_, h1, h2⟩
  ·have := hp.2.2
   rw [show d'.extract 0 n = d' by rw [← hd]; exact Array.extract_size, show ss.toArray.extract 0 n = ss.toArray by rw [← hs]; exact Array.extract_size] at this
   simpa using this
  ·rw [List.pairwise_iff_getElem]
   intro i j hi hj hij
   have hj' : j < n := by rw [Array.length_toList, hd] at hj; exact hj
   have := hso i j (Nat.zero_le _) hij hj'
   rw [ltOf_cmpN, getElem!_pos d' j (by omega), getElem!_pos d' i (by omega)] at this
   simpa using this
theorem up_of_sorted {l : List Nd} (h : l.Pairwise (fun a b => ltN b a = false)) (hn : l.Nodup) : Up l := by
 refine (List.pairwise_and_iff.mpr ⟨h, hn⟩).imp ?_
 rintro a b ⟨h1, h2⟩
 cases h3 : ltN a b
 ·exact absurd (ltN_total h3 h1) h2
 ·rfl
theorem reps_nd (w : World) (base : Nat) (ok : Nat → Prop) (l : List Nd) : Reps (k24.M w base ok) k24.sz l (ndCs l) := by
 have : ∀ (l acc : List Nd), Reps (k24.M w base ok) k24.sz acc (ndCs acc) → Reps (k24.M w base ok) k24.sz (acc ++ l) (ndCs (acc ++ l)) := by
  intro l
  induction l with
  | nil => intro acc h; rw [List.append_nil]; exact h
  | cons x l ih =>
   intro acc h
   have h2 := ih (acc ++ [x]) (by rw [ndCs_snoc]; exact Reps.snoc h (k24_mkM _ _ _ x) rfl)
   rw [List.append_assoc] at h2
   exact h2
 exact this l [] (Reps.none _ _)
theorem R_of_nd {w : World} {base : Nat} {v : Value} {l : List Nd} (h : w.ownsRow base 24 3 v l.length (ndCs l)) : k24.R 24 w base (fun _ => True) v l :=
 ⟨fun _ _ => trivial, ndCs l, h, reps_nd _ _ _ _⟩
set_option maxHeartbeats 2000000 in
theorem sorted_Nd (lb : Array Value) (r : List Nd) (w : World) (hseq : SeqGives Fence.wide (4 - 1 - 1) Tryd.prog kK1 lb ndV (fun ss => ss.Perm r) r.length w) (hup : Up r) (hlen : r.length ≤ 1000000) :
  Calls Tryd.prog 40 #[.func (.func kK1) #[] lb, .func (.func fCm) #[] #[]] w fun e w' => ∃ v, e = .returned v ∧ w'.ownsRow w.heap.size 24 3 v r.length (ndCs r) ∧ Below w.heap.size w w' := by
 have HC := Aside0.mk (callsIn_wide.1 (collect_in Fence.wide 4 trivial trivial rfl (by decide) kK1 lb trivial (enters_of Tryd.func55 (by kernel_rfl) rfl) (fun ss => ss.Perm r) r.length (by unfold maxLen; omega) (by omega) w hseq))
 have HUP := Aside0.mk hup; have HL := Aside0.mk hlen
 clear hseq hup hlen
 go_enter Tryd.func40, Tryd.ntmps40
 go_wp2_with fail
 refine HC.out.mono ?_
 rintro e w1 ⟨v, ss, rfl, hp, hown, hb⟩
 have HP := Aside0.mk hp; have HO := Aside0.mk hown; have HB := Aside0.mk hb
 clear hp hown hb HC
 go_wp2_with fail
 refine (sort_Nd v ss.length w.heap.size ss w1 HO.out rfl (by rw [HP.out.length_eq]; exact HL.out)).mono ?_
 rintro e w2 ⟨rfl, ss', hp', hso, hown, hg⟩
 have he : ss' = r := up_ext (up_of_sorted hso ((hp'.trans HP.out).nodup_iff.mpr HUP.out.nodup)) HUP.out (fun x => (hp'.trans HP.out).mem_iff)
 subst he
 have HO2 : Aside0 (w2.ownsRow w.heap.size 24 3 v ss'.length (ndCs ss')) := ⟨by rw [HP.out.length_eq] at hown; exact hown⟩
 have HB2 : Aside0 (Below w.heap.size w w2) := ⟨HB.out.grown hg HB.out.size (fun k hk => own_base HO.out k hk)⟩
 clear hp' hso hown hg
 go_wp2
 go_ret
 exact ⟨v, rfl, HO2.out, HB2.out⟩
set_option maxHeartbeats 2000000 in
theorem set_List (m : Option Nat) (r : List Nd) (w : World) (h : SetO w m r) (hlen : r.length ≤ 1000000) :
  Calls Tryd.prog 27 #[.agg #[.map m]] w fun e w' => ∃ v, e = .returned v ∧ k24.R 24 w' w.heap.size (fun _ => True) v r ∧ Below w.heap.size w w' := by
 have HB := Aside0.mk (below_alloc (below_alloc (Below.refl w.heap.size w) (.cells #[.map m] 50)) (.cells #[.map m] tM))
 have HM := Aside0.mk ((h.alloc (.cells #[.map m] 50)).alloc (.cells #[.map m] tM))
 have HK := Aside0.mk (callsIn_wide.1 (keys_in Fence.wide 4 trivial rfl m (w.alloc (.cells #[.map m] 50))))
 have HT : Aside0 (((w.alloc (.cells #[.map m] 50)).alloc (.cells #[.map m] tM)).heap[w.heap.size + 1]? = some (.cells #[.map m] tM (0, 0))) := ⟨by
  have := blk_new (w.alloc (.cells #[.map m] 50)) (.cells #[.map m] tM)
  rw [World.size_alloc] at this
  exact this⟩
 have HSZ : Aside0 (((w.alloc (.cells #[.map m] 50)).alloc (.cells #[.map m] tM)).heap.size = w.heap.size + 1 + 1) := ⟨by rw [World.size_alloc, World.size_alloc]⟩
 have HUP := Aside0.mk h.up
 clear h
 go_enter Tryd.func27, Tryd.ntmps27
 go_wp2_with fail
 refine HK.out.mono ?_
 rintro e w2 ⟨rfl, rfl⟩
 clear HK
 rw [World.size_alloc]
 generalize (w.alloc (.cells #[.map m] 50)).alloc (.cells #[.map m] tM) = w1 at HB HM HT HSZ ⊢
 have hseq := keys_gives Fence.wide (4 - 1 - 1) trivial rfl (by decide) (w.heap.size + 1) m r w1 (by rw [HSZ.out]; omega) (bk1 HT.out).1 HM.out
 have HC := Aside0.mk (sorted_Nd _ r w1 hseq HUP.out hlen)
 clear hseq
 go_wp2_with fail
 refine HC.out.mono ?_
 rintro e w2 ⟨v, rfl, hown, hb⟩
 have HR : Aside0 (k24.R 24 w2 w.heap.size (fun _ => True) v r) := ⟨R_of_nd (own_weaken hown (by rw [HSZ.out]; omega))⟩
 have HB2 : Aside0 (Below w.heap.size w w2) := ⟨below_step HB.out hb⟩
 clear hown hb HC
 go_wp2
 go_ret
 exact ⟨v, rfl, HR.out, HB2.out⟩
end Go.Proofs.YtgidnkmlnccaiaaDoor.Q
/- From what the row lists to what the calls read of the package-level variables: by hand. -/
namespace Go.Proofs.YtgidnkmlnccaiaaDoor.Q
open Go.RowKit Go.Proofs.YtgidnkmlnccaiaaDoorW.PrintWords Go.Proofs.YtgidnkmlnccaiaaDoorW.PrintLast Go.Proofs.YtgidnkmlnccaiaaDoorW.PrintMore
set_option linter.unusedVariables false
set_option linter.unusedSimpArgs false
theorem gPow : Tryd.prog.globalNamed "internal/strconv.uint64pow10" = some 0 := by kernel_rfl
theorem gPowType : (Tryd.prog.globals[0]?).map (·.type) = some 134 := by kernel_rfl
theorem cellsU64 : Tryd.prog.cellsOf 114 = 1 := by kernel_rfl
theorem cellsPow : Tryd.prog.cellsOf 134 = 20 := by kernel_rfl
theorem powData : (Rows.laid_internal_strconv_uint64pow10 : DataW Unit) = Lib.tabData .u64 Lib.pow10Tab := by kernel_rfl
def listedG : List (String × DataW Unit) := [("math/bits.deBruijn32tab", Rows.laid_math_bits_deBruijn32tab), ("math/bits.deBruijn64tab", Rows.laid_math_bits_deBruijn64tab), ("internal/strconv.uint64pow10", Rows.laid_internal_strconv_uint64pow10)]
theorem glob_of_laid {W : World} (h : laidMetH Tryd.prog listedG W) : Glob W := by
 rw [MakeChecks.laidMetH_plain _ _ _ (by kernel_rfl)] at h
 have h2 := h.tail.tail
 rw [powData] at h2
 exact Lib.tabIs_of_head gPow gPowType Tryd.underlying134 Tryd.underlying114 cellsU64 cellsPow h2
def nA : Nd := ⟨1, 3, ⟨#[84]⟩⟩
def nB : Nd := ⟨2, 0, ⟨#[84]⟩⟩
def rT : S28 := ⟨⟨#[84]⟩, [⟨⟨#[110]⟩, ⟨#[105, 110, 116]⟩⟩, ⟨⟨#[117]⟩, ⟨#[42, 85]⟩⟩]⟩
def rU : S28 := ⟨⟨#[85]⟩, []⟩
def eB : S40 := ⟨nB, 1, ⟨2, 0, ⟨#[85]⟩⟩⟩
theorem nA_wf : ndW nA := ⟨by decide, by decide, by decide⟩
theorem nB_wf : ndW nB := ⟨by decide, by decide, by decide⟩
theorem ofL_BAB : ofL [nB, nA, nB] = [nA, nB] := by kernel_rfl
theorem first_B : node_First.f 60 [rT, rU] 2 0 ⟨#[84]⟩ = some [eB] := by kernel_rfl
theorem first_A : node_First.f 60 [] 1 3 ⟨#[84]⟩ = some [] := by kernel_rfl
theorem text_A : node_Text.f 60 1 3 ⟨#[84]⟩ = some ⟨#[115, 105, 116, 101, 32, 51, 32, 84]⟩ := by kernel_rfl
theorem text_B : node_Text.f 60 2 0 ⟨#[84]⟩ = some ⟨#[111, 117, 116, 101, 114, 32, 84]⟩ := by kernel_rfl
theorem cmp_AB : node_Compare.f 60 1 3 ⟨#[84]⟩ 2 0 ⟨#[84]⟩ = some (-1) := by kernel_rfl
theorem nd_row (W : World) (l : List Nd) (hl : l.length ≤ 9223372036854775807) : Kd.C k24 (W.alloc (.cells (ndCs l).toArray 24)) (some ⟨W.heap.size, 0, none⟩) l.length l :=
 (Kd.R_reads' (lit_R k24 (W := W) W.heap.size 24 (xs := l) (inner := ndCs l) (ok := fun _ => True) (okp := fun _ => True) (reps_nd _ _ _ l) (fun _ h => h) trivial (Nat.le_refl _) hl)).2.2
theorem rTU_row (w : World) : Kd.C k28 ((w.alloc (.cells #[.string ⟨#[110]⟩, .string ⟨#[105, 110, 116]⟩, .string ⟨#[117]⟩, .string ⟨#[42, 85]⟩] 64)).alloc (.cells #[.string ⟨#[84]⟩, .slice (some ⟨w.heap.size, 0, none⟩) 2 2, .string ⟨#[85]⟩, .slice none 0 0] 28)) (some ⟨w.heap.size + 1, 0, none⟩) 2 [rT, rU] := by
 have hf := lit_R k64 (W := w) w.heap.size 64 (xs := rT.f1) (inner := [.string ⟨#[110]⟩, .string ⟨#[105, 110, 116]⟩, .string ⟨#[117]⟩, .string ⟨#[42, 85]⟩]) (ok := fun _ => True) (okp := fun _ => True) (Reps.c2 ⟨[.string ⟨#[110]⟩], [.string ⟨#[105, 110, 116]⟩], rfl, rfl, rfl⟩ (Reps.c2 ⟨[.string ⟨#[117]⟩], [.string ⟨#[42, 85]⟩], rfl, rfl, rfl⟩ (Reps.none _ _))) (fun _ h => h) trivial (Nat.le_refl _) (by decide)
 have e1 : (w.alloc (.cells #[.string ⟨#[110]⟩, .string ⟨#[105, 110, 116]⟩, .string ⟨#[117]⟩, .string ⟨#[42, 85]⟩] 64)).heap.size = w.heap.size + 1 := World.size_alloc _ _
 have hs := lit_R k28 (W := w.alloc (.cells #[.string ⟨#[110]⟩, .string ⟨#[105, 110, 116]⟩, .string ⟨#[117]⟩, .string ⟨#[42, 85]⟩] 64)) w.heap.size 28 (xs := [rT, rU]) (inner := [.string ⟨#[84]⟩, .slice (some ⟨w.heap.size, 0, none⟩) 2 2, .string ⟨#[85]⟩, .slice none 0 0]) (ok := fun _ => True) (okp := fun _ => True) (Reps.c2 (k28_mkM _ _ _ rT hf) (Reps.c2 (k28_mkM _ _ _ rU (Kd.R_nil _ _ _ _ _)) (Reps.none _ _))) (fun _ h => h) trivial (by omega) (by decide)
 rw [e1] at hs
 exact (Kd.R_reads' hs).2.2
theorem wf_A : ∀ x ∈ [nA], ndW x := fun x hx => by rw [List.mem_singleton.mp hx]; exact nA_wf
theorem aw_len2 (m : Option Nat) (w : World) (h : SetO w m [nA, nB]) : Calls Tryd.prog 26 #[.agg #[.map m]] w fun e w' => e = .returned (.int .i64 2) ∧ Below w.heap.size w w' := set_Len m [nA, nB] w h
theorem aw_len0 (m : Option Nat) (w : World) (h : SetO w m []) : Calls Tryd.prog 26 #[.agg #[.map m]] w fun e w' => e = .returned (.int .i64 0) ∧ Below w.heap.size w w' := set_Len m [] w h
theorem aw_hasB (m : Option Nat) (w : World) (h : SetO w m [nA, nB]) : Calls Tryd.prog 25 #[.agg #[.map m], .agg #[.int .i64 2, .int .i64 0, .string ⟨#[84]⟩]] w fun e w' => e = .returned (.bool true) ∧ Below w.heap.size w w' :=
 (set_Has m [nA, nB] nB w h nB_wf).mono fun _ _ h => ⟨by rw [h.1, decB_true (by simp)], h.2⟩
theorem nA_ne : nB ≠ nA := fun h => by
 have : nB.f0 = nA.f0 := by rw [h]
 exact absurd this (by decide)
theorem aw_hasnB (m : Option Nat) (w : World) (h : SetO w m [nA]) : Calls Tryd.prog 25 #[.agg #[.map m], .agg #[.int .i64 2, .int .i64 0, .string ⟨#[84]⟩]] w fun e w' => e = .returned (.bool false) ∧ Below w.heap.size w w' :=
 (set_Has m [nA] nB w h nB_wf).mono fun _ _ h => ⟨by rw [h.1, decB_false (fun h => nA_ne (List.mem_singleton.mp h))], h.2⟩
theorem aw_in (m n : Option Nat) (w : World) (h : SetO w m [nA]) (h2 : SetO w n [nA, nB]) : Calls Tryd.prog 23 #[.agg #[.map m], .agg #[.map n]] w fun e w' => e = .returned (.bool true) ∧ Below w.heap.size w w' :=
 (set_Within m n [nA] [nA, nB] w h h2).mono fun _ _ h => ⟨by rw [h.1, decB_true (fun x hx => by rw [List.mem_singleton.mp hx]; simp)], h.2⟩
theorem aw_nin (m n : Option Nat) (w : World) (h : SetO w m [nA, nB]) (h2 : SetO w n [nA]) : Calls Tryd.prog 23 #[.agg #[.map m], .agg #[.map n]] w fun e w' => e = .returned (.bool false) ∧ Below w.heap.size w w' :=
 (set_Within m n [nA, nB] [nA] w h h2).mono fun _ _ h => ⟨by rw [h.1, decB_false (fun h => nA_ne (List.mem_singleton.mp (h nB (by simp))))], h.2⟩
theorem typed_U : typedL ⟨#[85]⟩ [nA, nB] = [] := by kernel_rfl
theorem aw_typed (m : Option Nat) (w : World) (h : SetO w m [nA, nB]) : Calls Tryd.prog 24 #[.agg #[.map m], .string ⟨#[85]⟩] w fun e w' => ∃ b, e = .returned (.agg #[.map (some b)]) ∧ SetO w' (some b) [] ∧ Below w.heap.size w w' :=
 (set_Typed m [nA, nB] ⟨#[85]⟩ w h (by decide)).mono fun _ _ ⟨b, h1, _, h3, h4⟩ => ⟨b, h1, by rw [typed_U] at h3; exact h3, h4⟩
def truantlaw18_awake.f : Option (Bool) := some true
def truantlaw18_awake.T6 : Bool × List (List Nat × List Nat) := (true, [([], []), ([], []), ([0, 1], [0, 1]), ([2], [2]), ([3, 2], [3]), ([4], [4]), ([5, 4, 4], [4, 5]), ([6, 4], [4, 6]), ([4, 7], [4, 7]), ([8, 6], [8]), ([9], [9]), ([10, 9, 9], [9, 10]), ([11, 9], [9, 11]), ([9, 12], [9, 12]), ([13, 11], [13]), ([14], [14]), ([15, 14, 14], [14, 15]), ([16, 14], [14, 16]), ([14, 17], [14, 17]), ([18, 16], [18]), ([19], [19]), ([20, 19], [19, 20]), ([21, 19], [19, 21]), ([19, 22], [19, 22]), ([23, 19], [23]), ([24], [24]), ([25, 24], [24, 25]), ([26, 24], [24, 26]), ([24], [24]), ([27, 28, 24], [24, 27, 28]), ([24, 29], [24, 29]), ([30, 24], [30]), ([31], [31]), ([31], [31]), ([32, 33, 31, 31], [31, 32, 33]), ([31, 34], [31, 34]), ([35, 34], [35]), ([36], [36]), ([37, 36], [36, 37]), ([38, 36, 36], [36, 38]), ([36], [36]), ([39, 40, 39, 36], [36, 39, 40]), ([41, 36], [36, 41]), ([36, 42], [36, 42]), ([43, 41], [43]), ([44], [44]), ([45, 44], [44, 45]), ([46, 44, 44], [44, 46]), ([44], [44]), ([47, 48, 47, 44], [44, 47, 48]), ([44, 49], [44, 49]), ([50, 49], [50]), ([51], [51]), ([51], [51]), ([53, 51], [51, 53]), ([54, 51, 51], [51, 54]), ([52, 55, 55, 51], [51, 52, 55]), ([56, 51], [51, 56]), ([51, 57], [51, 57]), ([58, 56], [58]), ([59], [59]), ([60, 59, 59], [59, 60]), ([61, 61, 59], [59, 61]), ([62, 59], [59, 62]), ([59, 63], [59, 63]), ([64, 62], [64]), ([65], [65]), ([66, 65], [65, 66]), ([67, 65], [65, 67]), ([65, 68], [65, 68]), ([69, 65], [69]), ([70], [70]), ([71, 70], [70, 71]), ([72, 70], [70, 72]), ([70], [70]), ([70], [70]), ([74, 75, 70], [70, 74, 75]), ([73, 76, 70], [70, 73, 76]), ([70, 77], [70, 77]), ([78, 70], [78]), ([79], [79]), ([80, 79, 79], [79, 80]), ([81, 79], [79, 81]), ([82, 79], [79, 82]), ([79, 83], [79, 83]), ([84, 81, 0, 1, 2, 3, 4, 5, 6, 7, 8, 9, 10, 11, 12, 13, 14, 15, 16, 17, 18, 19, 20, 21, 22, 23, 24, 25, 26, 27, 28, 29, 30, 31, 32, 33, 34, 35, 36, 37, 38, 39, 40, 41, 42, 43, 44, 45, 46, 47, 48, 49, 50, 51, 52, 53, 54, 55, 56, 57, 58, 59, 60, 61, 62, 63, 64, 65, 66, 67, 68, 69, 70, 71, 72, 73, 74, 75, 76, 77, 78, 79, 80, 81, 82, 83, 84], [84])])
def truantlaw18_awake.B6 : List Nat := [0, 0, 3, 7, 15, 31, 63, 127, 255, 511, 1023, 2047, 4095, 8191, 16383, 32767, 65535, 131071, 262143, 524287, 1048575, 2097151, 4194303, 8388607, 16777215, 33554431, 67108863, 134217727, 33554431, 536870911, 1073741823, 2147483647, 4294967295, 4294967295, 17179869183, 34359738367, 68719476735, 137438953471, 274877906943, 549755813887, 137438953471, 2199023255551, 4398046511103, 8796093022207, 17592186044415, 35184372088831, 70368744177663, 140737488355327, 35184372088831, 562949953421311, 1125899906842623, 2251799813685247, 4503599627370495, 4503599627370495, 13510798882111487, 31525197391593471, 72057594037927935, 144115188075855871, 288230376151711743, 576460752303423487, 1152921504606846975, 2305843009213693951, 4611686018427387903, 9223372036854775807, 18446744073709551615, 36893488147419103231, 73786976294838206463, 147573952589676412927, 295147905179352825855, 590295810358705651711, 1180591620717411303423, 2361183241434822606847, 4722366482869645213695, 9444732965739290427391, 2361183241434822606847, 2361183241434822606847, 59029581035870565171199, 151115727451828646838271, 302231454903657293676543, 604462909807314587353087, 1208925819614629174706175, 2417851639229258349412351, 4835703278458516698824703, 9671406556917033397649407, 19342813113834066795298815, 38685626227668133590597631]
theorem truantlaw18_awake.tab6 : rtab .any (opsOf Tryd.f7 6) = truantlaw18_awake.T6 := by kernel_rfl
theorem truantlaw18_awake.bits6 : waitsOk truantlaw18_awake.T6.2 truantlaw18_awake.B6 = true := by kernel_rfl
set_option maxRecDepth 100000 in
set_option maxHeartbeats 8000000 in
theorem truantlaw18_awake.calls (r : Bool) (w : World) (h : truantlaw18_awake.f = some r) (hG : Glob w := by first | assumption | (refine Glob.below (by assumption) ?_; repeat (first | with_reducible exact (Aside0.out (by assumption)) | (refine below_set ?_ (Aside0.out (by assumption))) | (with_reducible first | apply below_alloc | apply pw_below_drewN | apply below_drew1) | exact (Aside0.out (by assumption))))) :
  Calls Tryd.prog 7 #[] w fun e w' => e = .returned (.bool r) ∧ Below w.heap.size w w' := by
 obtain rfl := Option.some.inj h
 clear h
 have HG := Aside0.mk hG; clear hG
 go_enter Tryd.func7, Tryd.ntmps7
 go_upto_region 3 with (fail)
 have H1 : Aside0 (((w.alloc (.cells #[.int .i64 1, .int .i64 3, .string ⟨#[84]⟩] 24)).alloc (.cells #[.int .i64 2, .int .i64 0, .string ⟨#[84]⟩] 24)).heap[w.heap.size]? = some (.cells #[.int .i64 1, .int .i64 3, .string ⟨#[84]⟩] 24 (0, 0))) := ⟨blk_alloc (blk_new _ _) _⟩
 have H2 : Aside0 (((w.alloc (.cells #[.int .i64 1, .int .i64 3, .string ⟨#[84]⟩] 24)).alloc (.cells #[.int .i64 2, .int .i64 0, .string ⟨#[84]⟩] 24)).heap[w.heap.size + 1]? = some (.cells #[.int .i64 2, .int .i64 0, .string ⟨#[84]⟩] 24 (0, 0))) := ⟨by
  have := blk_new (w.alloc (.cells #[.int .i64 1, .int .i64 3, .string ⟨#[84]⟩] 24)) (.cells #[.int .i64 2, .int .i64 0, .string ⟨#[84]⟩] 24)
  rw [World.size_alloc] at this
  exact this⟩
 have HB : Aside0 (Below w.heap.size w ((w.alloc (.cells #[.int .i64 1, .int .i64 3, .string ⟨#[84]⟩] 24)).alloc (.cells #[.int .i64 2, .int .i64 0, .string ⟨#[84]⟩] 24))) := ⟨below_alloc (below_alloc (Below.refl _ _) _) _⟩
 generalize (w.alloc (.cells #[.int .i64 1, .int .i64 3, .string ⟨#[84]⟩] 24)).alloc (.cells #[.int .i64 2, .int .i64 0, .string ⟨#[84]⟩] 24) = w1 at H1 H2 HB ⊢
 generalize w.heap.size + 1 = g2 at H2 ⊢
 obtain ⟨g1, hg1⟩ : ∃ g, g = w.heap.size := ⟨_, rfl⟩
 rw [← hg1] at H1 ⊢
 clear hg1
 have h1 := bk3 H1.out; have h2 := bk3 H2.out
 go_wp2_with fail
 clear h1 h2
 refine (node_Of (some ⟨w1.heap.size, 0, none⟩) 3 [nB, nA, nB] _ (nd_row w1 [nB, nA, nB] (by decide)) (Nat.le_refl _) (fun x hx => by
  have h : x = nB ∨ x = nA ∨ x = nB := by simpa using hx
  rcases h with rfl | rfl | rfl
  ·exact nB_wf
  ·exact nA_wf
  ·exact nB_wf) (by decide)).mono ?_
 rintro e w2 ⟨b, rfl, hb1, hs, hb2⟩
 rw [ofL_BAB] at hs
 have hbl : Below w1.heap.size w1 (w2.alloc (.cells #[.map (some b)] 50)) := below_alloc (below_step (below_alloc (Below.refl _ _) _) hb2) _
 have H13 := Aside0.mk (blk_below H1.out hbl); have H23 := Aside0.mk (blk_below H2.out hbl)
 have HB3 := Aside0.mk (below_step HB.out hbl)
 have HS3 : Aside0 (SetO (w2.alloc (.cells #[.map (some b)] 50)) (some b) [nA, nB]) := ⟨hs.alloc _⟩
 have H33 : Aside0 ((w2.alloc (.cells #[.map (some b)] 50)).heap[w2.heap.size]? = some (.cells #[.map (some b)] 50 (0, 0))) := ⟨blk_new _ _⟩
 clear hb1 hs hb2 hbl H1 H2 HB
 go_upto_region 4 with (fail)
 generalize w2.alloc (.cells #[.map (some b)] 50) = w3 at H13 H23 HB3 HS3 H33 ⊢
 generalize w2.heap.size = g3 at H33 ⊢
 have h3 := bk1 H33.out
 go_wp2_with fail
 clear h3
 refine (set_List (some b) [nA, nB] w3 HS3.out (by decide)).mono ?_
 rintro e w4 ⟨v4, rfl, hr4, hb4⟩
 obtain ⟨A4, c4, e4⟩ := Kd.R_slice hr4
 subst e4
 have HL4 := Aside0.mk (Kd.R_reads' hr4).2.2
 have HLC := Aside0.mk (Kd.R_reads' hr4).2.1
 have H14 := Aside0.mk (blk_below H13.out hb4); have H24 := Aside0.mk (blk_below H23.out hb4); have H34 := Aside0.mk (blk_below H33.out hb4)
 have HB4 := Aside0.mk (below_step HB3.out hb4); have HS4 := Aside0.mk (HS3.out.below hb4)
 clear hr4 hb4 H13 H23 H33 HB3 HS3
 have e1 : (w4.alloc (.cells #[.string ⟨#[110]⟩, .string ⟨#[105, 110, 116]⟩, .string ⟨#[117]⟩, .string ⟨#[42, 85]⟩] 64)).heap.size = w4.heap.size + 1 := World.size_alloc _ _
 have h2 := bk3 (blk_alloc (blk_alloc H24.out (.cells #[.string ⟨#[110]⟩, .string ⟨#[105, 110, 116]⟩, .string ⟨#[117]⟩, .string ⟨#[42, 85]⟩] 64)) (.cells #[.string ⟨#[84]⟩, .slice (some ⟨w4.heap.size, 0, none⟩) 2 2, .string ⟨#[85]⟩, .slice none 0 0] 28))
 go_wp2_with fail
 clear h2 e1
 refine (node_First.calls 60 (some ⟨w4.heap.size + 1, 0, none⟩) 2 [rT, rU] 2 0 ⟨#[84]⟩ [eB] _ (rTU_row w4) (Nat.le_refl _) first_B).mono ?_
 rintro e w5 ⟨v5, rfl, hr5, hb5⟩
 have hbl : Below w4.heap.size w4 w5 := below_step (below_alloc (below_alloc (Below.refl _ _) _) _) hb5
 have H15 := Aside0.mk (blk_below H14.out hbl); have H25 := Aside0.mk (blk_below H24.out hbl); have H35 := Aside0.mk (blk_below H34.out hbl)
 have HB5 := Aside0.mk (below_step HB4.out hbl); have HS5 := Aside0.mk (HS4.out.below hbl); have HL5 := Aside0.mk (Kd.C_below HL4.out hbl)
 have HG5 := Aside0.mk (HG.out.below HB5.out)
 obtain ⟨A5, c5, e5⟩ := Kd.R_slice hr5
 subst e5
 have HE5 := Aside0.mk (Kd.R_reads' hr5).2.2
 clear hr5 hb5 hbl H14 H24 H34 HB4 HS4 HL4 HG
 obtain ⟨ad4, e4, _⟩ := at_T24 HL5.out 0 (by decide) (by decide)
 subst e4
 obtain ⟨ad5, e5, _⟩ := at_T40 HE5.out 0 (by decide) (by decide)
 subst e5
 have HC4 : Aside0 (∀ w', Below w5.heap.size w5 w' → w'.cell? ad4 = some (.int .i64 1) ∧ w'.cell? ⟨ad4.block, ad4.off + 1, none⟩ = some (.int .i64 3) ∧ w'.cell? ⟨ad4.block, ad4.off + 2, none⟩ = some (.string ⟨#[84]⟩)) := ⟨fun w' hb => by
  obtain ⟨ad, e, h0, h1, h2⟩ := at_T24 (Kd.C_below HL5.out hb) 0 (by decide) (by decide)
  cases e
  exact ⟨h0, h1, h2⟩⟩
 have HC5 : Aside0 (∀ w', Below w5.heap.size w5 w' → w'.cell? ad5 = some (.int .i64 2) ∧ w'.cell? ⟨ad5.block, ad5.off + 1, none⟩ = some (.int .i64 0) ∧ w'.cell? ⟨ad5.block, ad5.off + 2, none⟩ = some (.string ⟨#[84]⟩) ∧ w'.cell? ⟨ad5.block, ad5.off + 3, none⟩ = some (.int .i64 1) ∧ w'.cell? ⟨ad5.block, ad5.off + 4, none⟩ = some (.int .i64 2) ∧ w'.cell? ⟨ad5.block, ad5.off + 5, none⟩ = some (.int .i64 0) ∧ w'.cell? ⟨ad5.block, ad5.off + 6, none⟩ = some (.string ⟨#[85]⟩)) := ⟨fun w' hb => by
  obtain ⟨ad, e, h0, h1, h2, h3, h4, h5, h6⟩ := at_T40 (Kd.C_below HE5.out hb) 0 (by decide) (by decide)
  cases e
  exact ⟨h0, h1, h2, h3, h4, h5, h6⟩⟩
 go_upto_region 6 with (fail)
 refine start_ (n := 86) (S := fun w' => Below w5.heap.size w5 w') (ds := []) (tf 0 86) (by kernel_rfl) rfl rfl ((below_drew1 (Below.refl _ _))) (fun hHeld => ?_)
 refine with_tabW truantlaw18_awake.tab6 truantlaw18_awake.bits6 (fun HT_ HW_ => ?_)
 refine take_ (i := 0) (N := some 23) (v := ?_) (a' := ?_) (tf 1 85) rfl rfl (take_ofW HT_.out HW_.out (by kernel_rfl)) (fun _ _ _ h => h) (Or.inl ⟨by rfl, ?_⟩) hHeld ?_ ?_
 rotate_left
 ·intro w' s0
  obtain ⟨x0, x1, x2, _, _, _⟩ := bk3 (blk_below H15.out s0)
  go_simp
  with_reducible rfl
 rotate_left
 ·simp only [Act.put, List.setIfInBounds_toArray, List.set_cons_zero, List.set_cons_succ, i64_w, i32_w]
  rfl
 refine take_ (i := 1) (N := some 24) (v := ?_) (a' := ?_) (tf 2 84) rfl rfl (take_ofW HT_.out HW_.out (by kernel_rfl)) (fun _ _ _ h => h) (Or.inl ⟨by rfl, ?_⟩) hHeld ?_ ?_
 rotate_left
 ·intro w' s0
  obtain ⟨x0, x1, x2, _, _, _⟩ := bk3 (blk_below H25.out s0)
  go_simp
  with_reducible rfl
 rotate_left
 ·simp only [Act.put, List.setIfInBounds_toArray, List.set_cons_zero, List.set_cons_succ, i64_w, i32_w]
  rfl
 refine one_ (i := 2) (N := some 25) (tf 3 83) rfl rfl (one_of HT_.out (by kernel_rfl)) (by decide) (fun K hK => ?_)
 refine goes_ Tryd.func12 (by kernel_rfl) rfl #[.agg #[.int .i64 1, .int .i64 3, .string ⟨#[84]⟩], .agg #[.int .i64 2, .int .i64 0, .string ⟨#[84]⟩]] (by rfl) rfl rfl (by simp only [List.map_toArray, List.map_cons, List.map_nil]; rfl) ?_
 refine (node_Compare.calls 60 _ _ _ _ _ _ (-1) _ cmp_AB).mono ?_
 rintro e w902 ⟨rfl, hb⟩
 refine ⟨_, rfl, ?_⟩
 refine hK.out _ _ (below_step hHeld hb) (fun hHeld => ?_)
 clear hK K
 refine norm_ (a' := ?_) ?_ ?_
 rotate_left
 ·show Act.put _ (some 25) _ = _
  simp only [Act.put, List.setIfInBounds_toArray, List.set_cons_zero, List.set_cons_succ, i64_w, i32_w]
  rfl
 refine pure_ (i := 3) (N := some 26) (v := ?_) (a' := ?_) (tf 4 82) rfl rfl (any_of HT_.out (by kernel_rfl)) (fun _ _ _ h => h) (Or.inl ⟨by rfl, ?_⟩) ?_ ?_
 rotate_left
 ·intro w'
  go_simp
  with_reducible rfl
 rotate_left
 ·simp only [Act.put, List.setIfInBounds_toArray, List.set_cons_zero, List.set_cons_succ, i64_w, i32_w]
  rfl
 refine pure_ (i := 4) (N := some 27) (v := ?_) (a' := ?_) (tf 5 81) rfl rfl (any_of HT_.out (by kernel_rfl)) (fun _ _ _ h => h) (Or.inl ⟨by rfl, ?_⟩) ?_ ?_
 rotate_left
 ·intro w'
  go_simp
  with_reducible rfl
 rotate_left
 ·simp only [Act.put, List.setIfInBounds_toArray, List.set_cons_zero, List.set_cons_succ, i64_w, i32_w]
  rfl
 refine take_ (i := 5) (N := some 28) (v := ?_) (a' := ?_) (tf 6 80) rfl rfl (take_ofW HT_.out HW_.out (by kernel_rfl)) (fun _ _ _ h => h) (Or.inl ⟨by rfl, ?_⟩) hHeld ?_ ?_
 rotate_left
 ·intro w' s0
  obtain ⟨x0, x1, x2, _, _, _⟩ := bk3 (blk_below H15.out s0)
  go_simp
  with_reducible rfl
 rotate_left
 ·simp only [Act.put, List.setIfInBounds_toArray, List.set_cons_zero, List.set_cons_succ, i64_w, i32_w]
  rfl
 refine one_ (i := 6) (N := some 29) (tf 7 79) rfl rfl (one_of HT_.out (by kernel_rfl)) (by decide) (fun K hK => ?_)
 refine goes_ Tryd.func13 (by kernel_rfl) rfl #[.agg #[.int .i64 1, .int .i64 3, .string ⟨#[84]⟩]] (by rfl) rfl rfl (by simp only [List.map_toArray, List.map_cons, List.map_nil]; rfl) ?_
 refine (node_Text.calls 60 _ _ _ _ _ text_A (HG5.out.below hHeld)).mono ?_
 rintro e w906 ⟨rfl, hb⟩
 refine ⟨_, rfl, ?_⟩
 refine hK.out _ _ (below_step hHeld hb) (fun hHeld => ?_)
 clear hK K
 refine norm_ (a' := ?_) ?_ ?_
 rotate_left
 ·show Act.put _ (some 29) _ = _
  simp only [Act.put, List.setIfInBounds_toArray, List.set_cons_zero, List.set_cons_succ, i64_w, i32_w]
  rfl
 refine pure_ (i := 7) (N := some 30) (v := ?_) (a' := ?_) (tf 8 78) rfl rfl (any_of HT_.out (by kernel_rfl)) (fun _ _ _ h => h) (Or.inl ⟨by rfl, ?_⟩) ?_ ?_
 rotate_left
 ·intro w'
  go_simp
  with_reducible rfl
 rotate_left
 ·simp only [Act.put, List.setIfInBounds_toArray, List.set_cons_zero, List.set_cons_succ, i64_w, i32_w]
  rfl
 refine pure_ (i := 8) (N := some 31) (v := ?_) (a' := ?_) (tf 9 77) rfl rfl (any_of HT_.out (by kernel_rfl)) (fun _ _ _ h => h) (Or.inl ⟨by rfl, ?_⟩) ?_ ?_
 rotate_left
 ·intro w'
  go_simp
  with_reducible rfl
 rotate_left
 ·simp only [Act.put, List.setIfInBounds_toArray, List.set_cons_zero, List.set_cons_succ, i64_w, i32_w]
  rfl
 refine pure_ (i := 9) (N := some 32) (v := ?_) (a' := ?_) (tf 10 76) rfl rfl (any_of HT_.out (by kernel_rfl)) (fun _ _ _ h => h) (Or.inl ⟨by rfl, ?_⟩) ?_ ?_
 rotate_left
 ·intro w'
  go_simp
  with_reducible rfl
 rotate_left
 ·simp only [Act.put, List.setIfInBounds_toArray, List.set_cons_zero, List.set_cons_succ, i64_w, i32_w]
  rfl
 refine take_ (i := 10) (N := some 33) (v := ?_) (a' := ?_) (tf 11 75) rfl rfl (take_ofW HT_.out HW_.out (by kernel_rfl)) (fun _ _ _ h => h) (Or.inl ⟨by rfl, ?_⟩) hHeld ?_ ?_
 rotate_left
 ·intro w' s0
  obtain ⟨x0, x1, x2, _, _, _⟩ := bk3 (blk_below H25.out s0)
  go_simp
  with_reducible rfl
 rotate_left
 ·simp only [Act.put, List.setIfInBounds_toArray, List.set_cons_zero, List.set_cons_succ, i64_w, i32_w]
  rfl
 refine one_ (i := 11) (N := some 34) (tf 12 74) rfl rfl (one_of HT_.out (by kernel_rfl)) (by decide) (fun K hK => ?_)
 refine goes_ Tryd.func13 (by kernel_rfl) rfl #[.agg #[.int .i64 2, .int .i64 0, .string ⟨#[84]⟩]] (by rfl) rfl rfl (by simp only [List.map_toArray, List.map_cons, List.map_nil]; rfl) ?_
 refine (node_Text.calls 60 _ _ _ _ _ text_B (HG5.out.below hHeld)).mono ?_
 rintro e w911 ⟨rfl, hb⟩
 refine ⟨_, rfl, ?_⟩
 refine hK.out _ _ (below_step hHeld hb) (fun hHeld => ?_)
 clear hK K
 refine norm_ (a' := ?_) ?_ ?_
 rotate_left
 ·show Act.put _ (some 34) _ = _
  simp only [Act.put, List.setIfInBounds_toArray, List.set_cons_zero, List.set_cons_succ, i64_w, i32_w]
  rfl
 refine pure_ (i := 12) (N := some 35) (v := ?_) (a' := ?_) (tf 13 73) rfl rfl (any_of HT_.out (by kernel_rfl)) (fun _ _ _ h => h) (Or.inl ⟨by rfl, ?_⟩) ?_ ?_
 rotate_left
 ·intro w'
  go_simp
  with_reducible rfl
 rotate_left
 ·simp only [Act.put, List.setIfInBounds_toArray, List.set_cons_zero, List.set_cons_succ, i64_w, i32_w]
  rfl
 refine pure_ (i := 13) (N := some 36) (v := ?_) (a' := ?_) (tf 14 72) rfl rfl (any_of HT_.out (by kernel_rfl)) (fun _ _ _ h => h) (Or.inl ⟨by rfl, ?_⟩) ?_ ?_
 rotate_left
 ·intro w'
  go_simp
  with_reducible rfl
 rotate_left
 ·simp only [Act.put, List.setIfInBounds_toArray, List.set_cons_zero, List.set_cons_succ, i64_w, i32_w]
  rfl
 refine pure_ (i := 14) (N := some 37) (v := ?_) (a' := ?_) (tf 15 71) rfl rfl (any_of HT_.out (by kernel_rfl)) (fun _ _ _ h => h) (Or.inl ⟨by rfl, ?_⟩) ?_ ?_
 rotate_left
 ·intro w'
  go_simp
  with_reducible rfl
 rotate_left
 ·simp only [Act.put, List.setIfInBounds_toArray, List.set_cons_zero, List.set_cons_succ, i64_w, i32_w]
  rfl
 refine take_ (i := 15) (N := some 38) (v := ?_) (a' := ?_) (tf 16 70) rfl rfl (take_ofW HT_.out HW_.out (by kernel_rfl)) (fun _ _ _ h => h) (Or.inl ⟨by rfl, ?_⟩) hHeld ?_ ?_
 rotate_left
 ·intro w' s0
  obtain ⟨x0, _⟩ := bk1 (blk_below H35.out s0)
  go_simp
  with_reducible rfl
 rotate_left
 ·simp only [Act.put, List.setIfInBounds_toArray, List.set_cons_zero, List.set_cons_succ, i64_w, i32_w]
  rfl
 refine one_ (i := 16) (N := some 39) (tf 17 69) rfl rfl (one_of HT_.out (by kernel_rfl)) (by decide) (fun K hK => ?_)
 refine goes_ Tryd.func26 (by kernel_rfl) rfl #[.agg #[.map (some b)]] (by rfl) rfl rfl (by simp only [List.map_toArray, List.map_cons, List.map_nil]; rfl) ?_
 refine (aw_len2 (some b) _ (HS5.out.below hHeld)).mono ?_
 rintro e w916 ⟨rfl, hb⟩
 refine ⟨_, rfl, ?_⟩
 refine hK.out _ _ (below_step hHeld hb) (fun hHeld => ?_)
 clear hK K
 refine norm_ (a' := ?_) ?_ ?_
 rotate_left
 ·show Act.put _ (some 39) _ = _
  simp only [Act.put, List.setIfInBounds_toArray, List.set_cons_zero, List.set_cons_succ, i64_w, i32_w]
  rfl
 refine pure_ (i := 17) (N := some 40) (v := ?_) (a' := ?_) (tf 18 68) rfl rfl (any_of HT_.out (by kernel_rfl)) (fun _ _ _ h => h) (Or.inl ⟨by rfl, ?_⟩) ?_ ?_
 rotate_left
 ·intro w'
  go_simp
  with_reducible rfl
 rotate_left
 ·simp only [Act.put, List.setIfInBounds_toArray, List.set_cons_zero, List.set_cons_succ, i64_w, i32_w]
  rfl
 refine pure_ (i := 18) (N := some 41) (v := ?_) (a' := ?_) (tf 19 67) rfl rfl (any_of HT_.out (by kernel_rfl)) (fun _ _ _ h => h) (Or.inl ⟨by rfl, ?_⟩) ?_ ?_
 rotate_left
 ·intro w'
  go_simp
  with_reducible rfl
 rotate_left
 ·simp only [Act.put, List.setIfInBounds_toArray, List.set_cons_zero, List.set_cons_succ, i64_w, i32_w]
  rfl
 refine pure_ (i := 19) (N := some 42) (v := ?_) (a' := ?_) (tf 20 66) rfl rfl (any_of HT_.out (by kernel_rfl)) (fun _ _ _ h => h) (Or.inl ⟨by rfl, ?_⟩) ?_ ?_
 rotate_left
 ·intro w'
  go_simp
  with_reducible rfl
 rotate_left
 ·simp only [Act.put, List.setIfInBounds_toArray, List.set_cons_zero, List.set_cons_succ, i64_w, i32_w]
  rfl
 refine pure_ (i := 20) (N := some 43) (v := ?_) (a' := ?_) (tf 21 65) rfl rfl (any_of HT_.out (by kernel_rfl)) (fun _ _ _ h => h) (Or.inl ⟨by rfl, ?_⟩) ?_ ?_
 rotate_left
 ·intro w'
  go_simp
  with_reducible rfl
 rotate_left
 ·simp only [Act.put, List.setIfInBounds_toArray, List.set_cons_zero, List.set_cons_succ, i64_w, i32_w]
  rfl
 refine pure_ (i := 21) (N := some 44) (v := ?_) (a' := ?_) (tf 22 64) rfl rfl (any_of HT_.out (by kernel_rfl)) (fun _ _ _ h => h) (Or.inl ⟨by rfl, ?_⟩) ?_ ?_
 rotate_left
 ·intro w'
  go_simp
  with_reducible rfl
 rotate_left
 ·simp only [Act.put, List.setIfInBounds_toArray, List.set_cons_zero, List.set_cons_succ, i64_w, i32_w]
  rfl
 refine pure_ (i := 22) (N := some 45) (v := ?_) (a' := ?_) (tf 23 63) rfl rfl (any_of HT_.out (by kernel_rfl)) (fun _ _ _ h => h) (Or.inl ⟨by rfl, ?_⟩) ?_ ?_
 rotate_left
 ·intro w'
  go_simp
  with_reducible rfl
 rotate_left
 ·simp only [Act.put, List.setIfInBounds_toArray, List.set_cons_zero, List.set_cons_succ, i64_w, i32_w]
  rfl
 refine pure_ (i := 23) (N := some 46) (v := ?_) (a' := ?_) (tf 24 62) rfl rfl (any_of HT_.out (by kernel_rfl)) (fun _ _ _ h => h) (Or.inl ⟨by rfl, ?_⟩) ?_ ?_
 rotate_left
 ·intro w'
  go_simp
  with_reducible rfl
 rotate_left
 ·simp only [Act.put, List.setIfInBounds_toArray, List.set_cons_zero, List.set_cons_succ, i64_w, i32_w]
  rfl
 refine pure_ (i := 24) (N := some 47) (v := ?_) (a' := ?_) (tf 25 61) rfl rfl (any_of HT_.out (by kernel_rfl)) (fun _ _ _ h => h) (Or.inl ⟨by rfl, ?_⟩) ?_ ?_
 rotate_left
 ·intro w'
  go_simp
  with_reducible rfl
 rotate_left
 ·simp only [Act.put, List.setIfInBounds_toArray, List.set_cons_zero, List.set_cons_succ, i64_w, i32_w]
  rfl
 refine pure_ (i := 25) (N := some 48) (v := ?_) (a' := ?_) (tf 26 60) rfl rfl (any_of HT_.out (by kernel_rfl)) (fun _ _ _ h => h) (Or.inl ⟨by rfl, ?_⟩) ?_ ?_
 rotate_left
 ·intro w'
  go_simp
  with_reducible rfl
 rotate_left
 ·simp only [Act.put, List.setIfInBounds_toArray, List.set_cons_zero, List.set_cons_succ, i64_w, i32_w]
  rfl
 refine pure_ (i := 26) (N := some 49) (v := ?_) (a' := ?_) (tf 27 59) rfl rfl (any_of HT_.out (by kernel_rfl)) (fun _ _ _ h => h) (Or.inl ⟨by rfl, ?_⟩) ?_ ?_
 rotate_left
 ·intro w'
  go_simp
  with_reducible rfl
 rotate_left
 ·simp only [Act.put, List.setIfInBounds_toArray, List.set_cons_zero, List.set_cons_succ, i64_w, i32_w]
  rfl
 refine take_ (i := 27) (N := some 50) (v := ?_) (a' := ?_) (tf 28 58) rfl rfl (take_ofW HT_.out HW_.out (by kernel_rfl)) (fun _ _ _ h => h) (Or.inl ⟨by rfl, ?_⟩) hHeld ?_ ?_
 rotate_left
 ·intro w' s0
  obtain ⟨x0, x1, x2⟩ := HC4.out w' s0
  go_simp
  with_reducible rfl
 rotate_left
 ·simp only [Act.put, List.setIfInBounds_toArray, List.set_cons_zero, List.set_cons_succ, i64_w, i32_w]
  rfl
 refine take_ (i := 28) (N := some 51) (v := ?_) (a' := ?_) (tf 29 57) rfl rfl (take_ofW HT_.out HW_.out (by kernel_rfl)) (fun _ _ _ h => h) (Or.inl ⟨by rfl, ?_⟩) hHeld ?_ ?_
 rotate_left
 ·intro w' s0
  obtain ⟨x0, x1, x2, _, _, _⟩ := bk3 (blk_below H15.out s0)
  go_simp
  with_reducible rfl
 rotate_left
 ·simp only [Act.put, List.setIfInBounds_toArray, List.set_cons_zero, List.set_cons_succ, i64_w, i32_w]
  rfl
 refine pure_ (i := 29) (N := some 52) (v := ?_) (a' := ?_) (tf 30 56) rfl rfl (any_of HT_.out (by kernel_rfl)) (fun _ _ _ h => h) (Or.inl ⟨by rfl, ?_⟩) ?_ ?_
 rotate_left
 ·intro w'
  go_simp
  with_reducible rfl
 rotate_left
 ·simp only [Act.put, List.setIfInBounds_toArray, List.set_cons_zero, List.set_cons_succ, i64_w, i32_w]
  rfl
 refine pure_ (i := 30) (N := some 53) (v := ?_) (a' := ?_) (tf 31 55) rfl rfl (any_of HT_.out (by kernel_rfl)) (fun _ _ _ h => h) (Or.inl ⟨by rfl, ?_⟩) ?_ ?_
 rotate_left
 ·intro w'
  go_simp
  with_reducible rfl
 rotate_left
 ·simp only [Act.put, List.setIfInBounds_toArray, List.set_cons_zero, List.set_cons_succ, i64_w, i32_w]
  rfl
 refine pure_ (i := 31) (N := some 54) (v := ?_) (a' := ?_) (tf 32 54) rfl rfl (any_of HT_.out (by kernel_rfl)) (fun _ _ _ h => h) (Or.inl ⟨by rfl, ?_⟩) ?_ ?_
 rotate_left
 ·intro w'
  go_simp
  with_reducible rfl
 rotate_left
 ·simp only [Act.put, List.setIfInBounds_toArray, List.set_cons_zero, List.set_cons_succ, i64_w, i32_w]
  rfl
 refine take_ (i := 32) (N := some 55) (v := ?_) (a' := ?_) (tf 33 53) rfl rfl (take_ofW HT_.out HW_.out (by kernel_rfl)) (fun _ _ _ h => h) (Or.inl ⟨by rfl, ?_⟩) hHeld ?_ ?_
 rotate_left
 ·intro w' s0
  obtain ⟨x0, _⟩ := bk1 (blk_below H35.out s0)
  go_simp
  with_reducible rfl
 rotate_left
 ·simp only [Act.put, List.setIfInBounds_toArray, List.set_cons_zero, List.set_cons_succ, i64_w, i32_w]
  rfl
 refine take_ (i := 33) (N := some 56) (v := ?_) (a' := ?_) (tf 34 52) rfl rfl (take_ofW HT_.out HW_.out (by kernel_rfl)) (fun _ _ _ h => h) (Or.inl ⟨by rfl, ?_⟩) hHeld ?_ ?_
 rotate_left
 ·intro w' s0
  obtain ⟨x0, x1, x2, _, _, _⟩ := bk3 (blk_below H25.out s0)
  go_simp
  with_reducible rfl
 rotate_left
 ·simp only [Act.put, List.setIfInBounds_toArray, List.set_cons_zero, List.set_cons_succ, i64_w, i32_w]
  rfl
 refine one_ (i := 34) (N := some 57) (tf 35 51) rfl rfl (one_of HT_.out (by kernel_rfl)) (by decide) (fun K hK => ?_)
 refine goes_ Tryd.func25 (by kernel_rfl) rfl #[.agg #[.map (some b)], .agg #[.int .i64 2, .int .i64 0, .string ⟨#[84]⟩]] (by rfl) rfl rfl (by simp only [List.map_toArray, List.map_cons, List.map_nil]; rfl) ?_
 refine (aw_hasB (some b) _ (HS5.out.below hHeld)).mono ?_
 rintro e w934 ⟨rfl, hb⟩
 refine ⟨_, rfl, ?_⟩
 refine hK.out _ _ (below_step hHeld hb) (fun hHeld => ?_)
 clear hK K
 refine norm_ (a' := ?_) ?_ ?_
 rotate_left
 ·show Act.put _ (some 57) _ = _
  simp only [Act.put, List.setIfInBounds_toArray, List.set_cons_zero, List.set_cons_succ, i64_w, i32_w]
  rfl
 refine pure_ (i := 35) (N := some 58) (v := ?_) (a' := ?_) (tf 36 50) rfl rfl (any_of HT_.out (by kernel_rfl)) (fun _ _ _ h => h) (Or.inl ⟨by rfl, ?_⟩) ?_ ?_
 rotate_left
 ·intro w'
  go_simp
  with_reducible rfl
 rotate_left
 ·simp only [Act.put, List.setIfInBounds_toArray, List.set_cons_zero, List.set_cons_succ, i64_w, i32_w]
  rfl
 refine pure_ (i := 36) (N := some 59) (v := ?_) (a' := ?_) (tf 37 49) rfl rfl (any_of HT_.out (by kernel_rfl)) (fun _ _ _ h => h) (Or.inl ⟨by rfl, ?_⟩) ?_ ?_
 rotate_left
 ·intro w'
  go_simp
  with_reducible rfl
 rotate_left
 ·simp only [Act.put, List.setIfInBounds_toArray, List.set_cons_zero, List.set_cons_succ, i64_w, i32_w]
  rfl
 refine take_ (i := 37) (N := some 60) (v := ?_) (a' := ?_) (tf 38 48) rfl rfl (take_ofW HT_.out HW_.out (by kernel_rfl)) (fun _ _ _ h => h) (Or.inl ⟨by rfl, ?_⟩) hHeld ?_ ?_
 rotate_left
 ·intro w' s0
  obtain ⟨x0, x1, x2, _, _, _⟩ := bk3 (blk_below H15.out s0)
  go_simp
  with_reducible rfl
 rotate_left
 ·simp only [Act.put, List.setIfInBounds_toArray, List.set_cons_zero, List.set_cons_succ, i64_w, i32_w]
  rfl
 refine take_ (i := 40) (N := some 63) (v := ?_) (a' := ?_) #[true, true, true, true, true, true, true, true, true, true, true, true, true, true, true, true, true, true, true, true, true, true, true, true, true, true, true, true, true, true, true, true, true, true, true, true, true, true, false, false, true, false, false, false, false, false, false, false, false, false, false, false, false, false, false, false, false, false, false, false, false, false, false, false, false, false, false, false, false, false, false, false, false, false, false, false, false, false, false, false, false, false, false, false, false, false] rfl rfl (take_ofW HT_.out HW_.out (by kernel_rfl)) (fun _ _ _ h => h) (Or.inl ⟨by rfl, ?_⟩) hHeld ?_ ?_
 rotate_left
 ·intro w' s0
  obtain ⟨x0, x1, x2, _, _, _⟩ := bk3 (blk_below H25.out s0)
  go_simp
  with_reducible rfl
 rotate_left
 ·simp only [Act.put, List.setIfInBounds_toArray, List.set_cons_zero, List.set_cons_succ, i64_w, i32_w]
  rfl
 refine one_ (i := 38) (N := some 61) #[true, true, true, true, true, true, true, true, true, true, true, true, true, true, true, true, true, true, true, true, true, true, true, true, true, true, true, true, true, true, true, true, true, true, true, true, true, true, true, false, true, false, false, false, false, false, false, false, false, false, false, false, false, false, false, false, false, false, false, false, false, false, false, false, false, false, false, false, false, false, false, false, false, false, false, false, false, false, false, false, false, false, false, false, false, false] rfl rfl (one_of HT_.out (by kernel_rfl)) (by decide) (fun K hK => ?_)
 refine Kd.R_lit_step k24 _ 24 ?hg (N := 61) ?hd (xs := [nA]) (inner := [.int .i64 1, .int .i64 3, .string ⟨#[84]⟩]) (ok := fun _ => True) (okp := fun _ => True) ?hr ?hp (fun _ hk => hk) trivial (Below.refl _ _) (Nat.le_refl _) (by simp) ?_
 case hd => rfl
 case hg => rfl
 case hr => first | (go_simp; done) | (go_simp; rfl)
 case hp => exact Reps.snoc (Reps.none _ _) (k24_mkM _ _ _ nA) rfl
 intro v38 w38 ho38 hb38 _ _
 obtain ⟨A38, c38, rfl, hc38, hC38⟩ := Kd.R_reads ho38
 have HC38 := Aside0.mk hC38; have Hc38 := Aside0.mk hc38
 clear ho38 hC38 hc38
 refine hK.out _ _ ((below_step hHeld hb38)) (fun hHeld => ?_)
 clear hK K
 refine norm_ (a' := ?_) ?_ ?_
 rotate_left
 ·show Act.put _ (some 61) _ = _
  simp only [Act.put, List.setIfInBounds_toArray, List.set_cons_zero, List.set_cons_succ, i64_w, i32_w]
  rfl
 refine one_ (i := 39) (N := some 62) (tf 41 45) rfl rfl (one_of HT_.out (by kernel_rfl)) (by decide) (fun K hK => ?_)
 refine goes_ Tryd.func17 (by kernel_rfl) rfl #[.slice A38 [nA].length c38] (by rfl) rfl rfl (by simp only [List.map_toArray, List.map_cons, List.map_nil]; rfl) ?_
 refine (node_Of A38 c38 [nA] _ HC38.out Hc38.out wf_A (by decide)).mono ?_
 rintro e w939 ⟨b39, rfl, _, hs39, hb⟩
 refine ⟨_, rfl, ?_⟩
 have HS39 := Aside0.mk (show SetO w939 (some b39) [nA] from hs39)
 clear hs39
 refine hK.out _ _ (below_step hHeld hb) (fun hHeld => ?_)
 clear hK K
 refine norm_ (a' := ?_) ?_ ?_
 rotate_left
 ·show Act.put _ (some 62) _ = _
  simp only [Act.put, List.setIfInBounds_toArray, List.set_cons_zero, List.set_cons_succ, i64_w, i32_w]
  rfl
 refine one_ (i := 41) (N := some 64) (tf 42 44) rfl rfl (one_of HT_.out (by kernel_rfl)) (by decide) (fun K hK => ?_)
 refine goes_ Tryd.func25 (by kernel_rfl) rfl #[.agg #[.map (some b39)], .agg #[.int .i64 2, .int .i64 0, .string ⟨#[84]⟩]] (by rfl) rfl rfl (by simp only [List.map_toArray, List.map_cons, List.map_nil]; rfl) ?_
 refine (aw_hasnB (some b39) _ HS39.out).mono ?_
 rintro e w941 ⟨rfl, hb⟩
 refine ⟨_, rfl, ?_⟩
 refine hK.out _ _ (below_step hHeld hb) (fun hHeld => ?_)
 clear hK K
 refine norm_ (a' := ?_) ?_ ?_
 rotate_left
 ·show Act.put _ (some 64) _ = _
  simp only [Act.put, List.setIfInBounds_toArray, List.set_cons_zero, List.set_cons_succ, i64_w, i32_w]
  rfl
 refine pure_ (i := 42) (N := some 65) (v := ?_) (a' := ?_) (tf 43 43) rfl rfl (any_of HT_.out (by kernel_rfl)) (fun _ _ _ h => h) (Or.inl ⟨by rfl, ?_⟩) ?_ ?_
 rotate_left
 ·intro w'
  go_simp
  with_reducible rfl
 rotate_left
 ·simp only [Act.put, List.setIfInBounds_toArray, List.set_cons_zero, List.set_cons_succ, i64_w, i32_w]
  rfl
 refine pure_ (i := 43) (N := some 66) (v := ?_) (a' := ?_) (tf 44 42) rfl rfl (any_of HT_.out (by kernel_rfl)) (fun _ _ _ h => h) (Or.inl ⟨by rfl, ?_⟩) ?_ ?_
 rotate_left
 ·intro w'
  go_simp
  with_reducible rfl
 rotate_left
 ·simp only [Act.put, List.setIfInBounds_toArray, List.set_cons_zero, List.set_cons_succ, i64_w, i32_w]
  rfl
 refine pure_ (i := 44) (N := some 67) (v := ?_) (a' := ?_) (tf 45 41) rfl rfl (any_of HT_.out (by kernel_rfl)) (fun _ _ _ h => h) (Or.inl ⟨by rfl, ?_⟩) ?_ ?_
 rotate_left
 ·intro w'
  go_simp
  with_reducible rfl
 rotate_left
 ·simp only [Act.put, List.setIfInBounds_toArray, List.set_cons_zero, List.set_cons_succ, i64_w, i32_w]
  rfl
 refine take_ (i := 45) (N := some 68) (v := ?_) (a' := ?_) (tf 46 40) rfl rfl (take_ofW HT_.out HW_.out (by kernel_rfl)) (fun _ _ _ h => h) (Or.inl ⟨by rfl, ?_⟩) hHeld ?_ ?_
 rotate_left
 ·intro w' s0
  obtain ⟨x0, x1, x2, _, _, _⟩ := bk3 (blk_below H15.out s0)
  go_simp
  with_reducible rfl
 rotate_left
 ·simp only [Act.put, List.setIfInBounds_toArray, List.set_cons_zero, List.set_cons_succ, i64_w, i32_w]
  rfl
 refine take_ (i := 48) (N := some 71) (v := ?_) (a' := ?_) #[true, true, true, true, true, true, true, true, true, true, true, true, true, true, true, true, true, true, true, true, true, true, true, true, true, true, true, true, true, true, true, true, true, true, true, true, true, true, true, true, true, true, true, true, true, true, false, false, true, false, false, false, false, false, false, false, false, false, false, false, false, false, false, false, false, false, false, false, false, false, false, false, false, false, false, false, false, false, false, false, false, false, false, false, false, false] rfl rfl (take_ofW HT_.out HW_.out (by kernel_rfl)) (fun _ _ _ h => h) (Or.inl ⟨by rfl, ?_⟩) hHeld ?_ ?_
 rotate_left
 ·intro w' s0
  obtain ⟨x0, _⟩ := bk1 (blk_below H35.out s0)
  go_simp
  with_reducible rfl
 rotate_left
 ·simp only [Act.put, List.setIfInBounds_toArray, List.set_cons_zero, List.set_cons_succ, i64_w, i32_w]
  rfl
 refine one_ (i := 46) (N := some 69) #[true, true, true, true, true, true, true, true, true, true, true, true, true, true, true, true, true, true, true, true, true, true, true, true, true, true, true, true, true, true, true, true, true, true, true, true, true, true, true, true, true, true, true, true, true, true, true, false, true, false, false, false, false, false, false, false, false, false, false, false, false, false, false, false, false, false, false, false, false, false, false, false, false, false, false, false, false, false, false, false, false, false, false, false, false, false] rfl rfl (one_of HT_.out (by kernel_rfl)) (by decide) (fun K hK => ?_)
 refine Kd.R_lit_step k24 _ 24 ?hg (N := 69) ?hd (xs := [nA]) (inner := [.int .i64 1, .int .i64 3, .string ⟨#[84]⟩]) (ok := fun _ => True) (okp := fun _ => True) ?hr ?hp (fun _ hk => hk) trivial (Below.refl _ _) (Nat.le_refl _) (by simp) ?_
 case hd => rfl
 case hg => rfl
 case hr => first | (go_simp; done) | (go_simp; rfl)
 case hp => exact Reps.snoc (Reps.none _ _) (k24_mkM _ _ _ nA) rfl
 intro v46 w46 ho46 hb46 _ _
 obtain ⟨A46, c46, rfl, hc46, hC46⟩ := Kd.R_reads ho46
 have HC46 := Aside0.mk hC46; have Hc46 := Aside0.mk hc46
 clear ho46 hC46 hc46
 refine hK.out _ _ ((below_step hHeld hb46)) (fun hHeld => ?_)
 clear hK K
 refine norm_ (a' := ?_) ?_ ?_
 rotate_left
 ·show Act.put _ (some 69) _ = _
  simp only [Act.put, List.setIfInBounds_toArray, List.set_cons_zero, List.set_cons_succ, i64_w, i32_w]
  rfl
 refine one_ (i := 47) (N := some 70) (tf 49 37) rfl rfl (one_of HT_.out (by kernel_rfl)) (by decide) (fun K hK => ?_)
 refine goes_ Tryd.func17 (by kernel_rfl) rfl #[.slice A46 [nA].length c46] (by rfl) rfl rfl (by simp only [List.map_toArray, List.map_cons, List.map_nil]; rfl) ?_
 refine (node_Of A46 c46 [nA] _ HC46.out Hc46.out wf_A (by decide)).mono ?_
 rintro e w947 ⟨b47, rfl, _, hs47, hb⟩
 refine ⟨_, rfl, ?_⟩
 have HS47 := Aside0.mk (show SetO w947 (some b47) [nA] from hs47)
 clear hs47
 refine hK.out _ _ (below_step hHeld hb) (fun hHeld => ?_)
 clear hK K
 refine norm_ (a' := ?_) ?_ ?_
 rotate_left
 ·show Act.put _ (some 70) _ = _
  simp only [Act.put, List.setIfInBounds_toArray, List.set_cons_zero, List.set_cons_succ, i64_w, i32_w]
  rfl
 refine one_ (i := 49) (N := some 72) (tf 50 36) rfl rfl (one_of HT_.out (by kernel_rfl)) (by decide) (fun K hK => ?_)
 refine goes_ Tryd.func23 (by kernel_rfl) rfl #[.agg #[.map (some b47)], .agg #[.map (some b)]] (by rfl) rfl rfl (by simp only [List.map_toArray, List.map_cons, List.map_nil]; rfl) ?_
 refine (aw_in (some b47) (some b) _ HS47.out (HS5.out.below hHeld)).mono ?_
 rintro e w949 ⟨rfl, hb⟩
 refine ⟨_, rfl, ?_⟩
 refine hK.out _ _ (below_step hHeld hb) (fun hHeld => ?_)
 clear hK K
 refine norm_ (a' := ?_) ?_ ?_
 rotate_left
 ·show Act.put _ (some 72) _ = _
  simp only [Act.put, List.setIfInBounds_toArray, List.set_cons_zero, List.set_cons_succ, i64_w, i32_w]
  rfl
 refine pure_ (i := 50) (N := some 73) (v := ?_) (a' := ?_) (tf 51 35) rfl rfl (any_of HT_.out (by kernel_rfl)) (fun _ _ _ h => h) (Or.inl ⟨by rfl, ?_⟩) ?_ ?_
 rotate_left
 ·intro w'
  go_simp
  with_reducible rfl
 rotate_left
 ·simp only [Act.put, List.setIfInBounds_toArray, List.set_cons_zero, List.set_cons_succ, i64_w, i32_w]
  rfl
 refine pure_ (i := 51) (N := some 74) (v := ?_) (a' := ?_) (tf 52 34) rfl rfl (any_of HT_.out (by kernel_rfl)) (fun _ _ _ h => h) (Or.inl ⟨by rfl, ?_⟩) ?_ ?_
 rotate_left
 ·intro w'
  go_simp
  with_reducible rfl
 rotate_left
 ·simp only [Act.put, List.setIfInBounds_toArray, List.set_cons_zero, List.set_cons_succ, i64_w, i32_w]
  rfl
 refine take_ (i := 52) (N := some 75) (v := ?_) (a' := ?_) (tf 53 33) rfl rfl (take_ofW HT_.out HW_.out (by kernel_rfl)) (fun _ _ _ h => h) (Or.inl ⟨by rfl, ?_⟩) hHeld ?_ ?_
 rotate_left
 ·intro w' s0
  obtain ⟨x0, _⟩ := bk1 (blk_below H35.out s0)
  go_simp
  with_reducible rfl
 rotate_left
 ·simp only [Act.put, List.setIfInBounds_toArray, List.set_cons_zero, List.set_cons_succ, i64_w, i32_w]
  rfl
 refine take_ (i := 53) (N := some 76) (v := ?_) (a' := ?_) (tf 54 32) rfl rfl (take_ofW HT_.out HW_.out (by kernel_rfl)) (fun _ _ _ h => h) (Or.inl ⟨by rfl, ?_⟩) hHeld ?_ ?_
 rotate_left
 ·intro w' s0
  obtain ⟨x0, x1, x2, _, _, _⟩ := bk3 (blk_below H15.out s0)
  go_simp
  with_reducible rfl
 rotate_left
 ·simp only [Act.put, List.setIfInBounds_toArray, List.set_cons_zero, List.set_cons_succ, i64_w, i32_w]
  rfl
 refine one_ (i := 54) (N := some 77) (tf 55 31) rfl rfl (one_of HT_.out (by kernel_rfl)) (by decide) (fun K hK => ?_)
 refine Kd.R_lit_step k24 _ 24 ?hg (N := 77) ?hd (xs := [nA]) (inner := [.int .i64 1, .int .i64 3, .string ⟨#[84]⟩]) (ok := fun _ => True) (okp := fun _ => True) ?hr ?hp (fun _ hk => hk) trivial (Below.refl _ _) (Nat.le_refl _) (by simp) ?_
 case hd => rfl
 case hg => rfl
 case hr => first | (go_simp; done) | (go_simp; rfl)
 case hp => exact Reps.snoc (Reps.none _ _) (k24_mkM _ _ _ nA) rfl
 intro v54 w54 ho54 hb54 _ _
 obtain ⟨A54, c54, rfl, hc54, hC54⟩ := Kd.R_reads ho54
 have HC54 := Aside0.mk hC54; have Hc54 := Aside0.mk hc54
 clear ho54 hC54 hc54
 refine hK.out _ _ ((below_step hHeld hb54)) (fun hHeld => ?_)
 clear hK K
 refine norm_ (a' := ?_) ?_ ?_
 rotate_left
 ·show Act.put _ (some 77) _ = _
  simp only [Act.put, List.setIfInBounds_toArray, List.set_cons_zero, List.set_cons_succ, i64_w, i32_w]
  rfl
 refine one_ (i := 55) (N := some 78) (tf 56 30) rfl rfl (one_of HT_.out (by kernel_rfl)) (by decide) (fun K hK => ?_)
 refine goes_ Tryd.func17 (by kernel_rfl) rfl #[.slice A54 [nA].length c54] (by rfl) rfl rfl (by simp only [List.map_toArray, List.map_cons, List.map_nil]; rfl) ?_
 refine (node_Of A54 c54 [nA] _ HC54.out Hc54.out wf_A (by decide)).mono ?_
 rintro e w955 ⟨b55, rfl, _, hs55, hb⟩
 refine ⟨_, rfl, ?_⟩
 have HS55 := Aside0.mk (show SetO w955 (some b55) [nA] from hs55)
 clear hs55
 refine hK.out _ _ (below_step hHeld hb) (fun hHeld => ?_)
 clear hK K
 refine norm_ (a' := ?_) ?_ ?_
 rotate_left
 ·show Act.put _ (some 78) _ = _
  simp only [Act.put, List.setIfInBounds_toArray, List.set_cons_zero, List.set_cons_succ, i64_w, i32_w]
  rfl
 refine one_ (i := 56) (N := some 79) (tf 57 29) rfl rfl (one_of HT_.out (by kernel_rfl)) (by decide) (fun K hK => ?_)
 refine goes_ Tryd.func23 (by kernel_rfl) rfl #[.agg #[.map (some b)], .agg #[.map (some b55)]] (by rfl) rfl rfl (by simp only [List.map_toArray, List.map_cons, List.map_nil]; rfl) ?_
 refine (aw_nin (some b) (some b55) _ (HS5.out.below hHeld) HS55.out).mono ?_
 rintro e w956 ⟨rfl, hb⟩
 refine ⟨_, rfl, ?_⟩
 refine hK.out _ _ (below_step hHeld hb) (fun hHeld => ?_)
 clear hK K
 refine norm_ (a' := ?_) ?_ ?_
 rotate_left
 ·show Act.put _ (some 79) _ = _
  simp only [Act.put, List.setIfInBounds_toArray, List.set_cons_zero, List.set_cons_succ, i64_w, i32_w]
  rfl
 refine pure_ (i := 57) (N := some 80) (v := ?_) (a' := ?_) (tf 58 28) rfl rfl (any_of HT_.out (by kernel_rfl)) (fun _ _ _ h => h) (Or.inl ⟨by rfl, ?_⟩) ?_ ?_
 rotate_left
 ·intro w'
  go_simp
  with_reducible rfl
 rotate_left
 ·simp only [Act.put, List.setIfInBounds_toArray, List.set_cons_zero, List.set_cons_succ, i64_w, i32_w]
  rfl
 refine pure_ (i := 58) (N := some 81) (v := ?_) (a' := ?_) (tf 59 27) rfl rfl (any_of HT_.out (by kernel_rfl)) (fun _ _ _ h => h) (Or.inl ⟨by rfl, ?_⟩) ?_ ?_
 rotate_left
 ·intro w'
  go_simp
  with_reducible rfl
 rotate_left
 ·simp only [Act.put, List.setIfInBounds_toArray, List.set_cons_zero, List.set_cons_succ, i64_w, i32_w]
  rfl
 refine pure_ (i := 59) (N := some 82) (v := ?_) (a' := ?_) (tf 60 26) rfl rfl (any_of HT_.out (by kernel_rfl)) (fun _ _ _ h => h) (Or.inl ⟨by rfl, ?_⟩) ?_ ?_
 rotate_left
 ·intro w'
  go_simp
  with_reducible rfl
 rotate_left
 ·simp only [Act.put, List.setIfInBounds_toArray, List.set_cons_zero, List.set_cons_succ, i64_w, i32_w]
  rfl
 refine take_ (i := 60) (N := some 83) (v := ?_) (a' := ?_) (tf 61 25) rfl rfl (take_ofW HT_.out HW_.out (by kernel_rfl)) (fun _ _ _ h => h) (Or.inl ⟨by rfl, ?_⟩) hHeld ?_ ?_
 rotate_left
 ·intro w' s0
  obtain ⟨x0, _⟩ := bk1 (blk_below H35.out s0)
  go_simp
  with_reducible rfl
 rotate_left
 ·simp only [Act.put, List.setIfInBounds_toArray, List.set_cons_zero, List.set_cons_succ, i64_w, i32_w]
  rfl
 refine one_ (i := 61) (N := some 84) (tf 62 24) rfl rfl (one_of HT_.out (by kernel_rfl)) (by decide) (fun K hK => ?_)
 refine goes_ Tryd.func24 (by kernel_rfl) rfl #[.agg #[.map (some b)], .string ⟨#[85]⟩] (by rfl) rfl rfl (by simp only [List.map_toArray, List.map_cons, List.map_nil]; rfl) ?_
 refine (aw_typed (some b) _ (HS5.out.below hHeld)).mono ?_
 rintro e w961 ⟨b61, rfl, hs61, hb⟩
 refine ⟨_, rfl, ?_⟩
 have HS61 := Aside0.mk hs61
 clear hs61
 refine hK.out _ _ (below_step hHeld hb) (fun hHeld => ?_)
 clear hK K
 refine norm_ (a' := ?_) ?_ ?_
 rotate_left
 ·show Act.put _ (some 84) _ = _
  simp only [Act.put, List.setIfInBounds_toArray, List.set_cons_zero, List.set_cons_succ, i64_w, i32_w]
  rfl
 refine one_ (i := 62) (N := some 85) (tf 63 23) rfl rfl (one_of HT_.out (by kernel_rfl)) (by decide) (fun K hK => ?_)
 refine goes_ Tryd.func26 (by kernel_rfl) rfl #[.agg #[.map (some b61)]] (by rfl) rfl rfl (by simp only [List.map_toArray, List.map_cons, List.map_nil]; rfl) ?_
 refine (aw_len0 (some b61) _ HS61.out).mono ?_
 rintro e w962 ⟨rfl, hb⟩
 refine ⟨_, rfl, ?_⟩
 refine hK.out _ _ (below_step hHeld hb) (fun hHeld => ?_)
 clear hK K
 refine norm_ (a' := ?_) ?_ ?_
 rotate_left
 ·show Act.put _ (some 85) _ = _
  simp only [Act.put, List.setIfInBounds_toArray, List.set_cons_zero, List.set_cons_succ, i64_w, i32_w]
  rfl
 refine pure_ (i := 63) (N := some 86) (v := ?_) (a' := ?_) (tf 64 22) rfl rfl (any_of HT_.out (by kernel_rfl)) (fun _ _ _ h => h) (Or.inl ⟨by rfl, ?_⟩) ?_ ?_
 rotate_left
 ·intro w'
  go_simp
  with_reducible rfl
 rotate_left
 ·simp only [Act.put, List.setIfInBounds_toArray, List.set_cons_zero, List.set_cons_succ, i64_w, i32_w]
  rfl
 refine pure_ (i := 64) (N := some 87) (v := ?_) (a' := ?_) (tf 65 21) rfl rfl (any_of HT_.out (by kernel_rfl)) (fun _ _ _ h => h) (Or.inl ⟨by rfl, ?_⟩) ?_ ?_
 rotate_left
 ·intro w'
  go_simp
  with_reducible rfl
 rotate_left
 ·simp only [Act.put, List.setIfInBounds_toArray, List.set_cons_zero, List.set_cons_succ, i64_w, i32_w]
  rfl
 refine pure_ (i := 65) (N := some 88) (v := ?_) (a' := ?_) (tf 66 20) rfl rfl (any_of HT_.out (by kernel_rfl)) (fun _ _ _ h => h) (Or.inl ⟨by rfl, ?_⟩) ?_ ?_
 rotate_left
 ·intro w'
  go_simp
  with_reducible rfl
 rotate_left
 ·simp only [Act.put, List.setIfInBounds_toArray, List.set_cons_zero, List.set_cons_succ, i64_w, i32_w]
  rfl
 refine pure_ (i := 66) (N := some 89) (v := ?_) (a' := ?_) (tf 67 19) rfl rfl (any_of HT_.out (by kernel_rfl)) (fun _ _ _ h => h) (Or.inl ⟨by rfl, ?_⟩) ?_ ?_
 rotate_left
 ·intro w'
  go_simp
  with_reducible rfl
 rotate_left
 ·simp only [Act.put, List.setIfInBounds_toArray, List.set_cons_zero, List.set_cons_succ, i64_w, i32_w]
  rfl
 refine pure_ (i := 67) (N := some 90) (v := ?_) (a' := ?_) (tf 68 18) rfl rfl (any_of HT_.out (by kernel_rfl)) (fun _ _ _ h => h) (Or.inl ⟨by rfl, ?_⟩) ?_ ?_
 rotate_left
 ·intro w'
  go_simp
  with_reducible rfl
 rotate_left
 ·simp only [Act.put, List.setIfInBounds_toArray, List.set_cons_zero, List.set_cons_succ, i64_w, i32_w]
  rfl
 refine pure_ (i := 68) (N := some 91) (v := ?_) (a' := ?_) (tf 69 17) rfl rfl (any_of HT_.out (by kernel_rfl)) (fun _ _ _ h => h) (Or.inl ⟨by rfl, ?_⟩) ?_ ?_
 rotate_left
 ·intro w'
  go_simp
  with_reducible rfl
 rotate_left
 ·simp only [Act.put, List.setIfInBounds_toArray, List.set_cons_zero, List.set_cons_succ, i64_w, i32_w]
  rfl
 refine pure_ (i := 69) (N := some 92) (v := ?_) (a' := ?_) (tf 70 16) rfl rfl (any_of HT_.out (by kernel_rfl)) (fun _ _ _ h => h) (Or.inl ⟨by rfl, ?_⟩) ?_ ?_
 rotate_left
 ·intro w'
  go_simp
  with_reducible rfl
 rotate_left
 ·simp only [Act.put, List.setIfInBounds_toArray, List.set_cons_zero, List.set_cons_succ, i64_w, i32_w]
  rfl
 refine pure_ (i := 70) (N := some 93) (v := ?_) (a' := ?_) (tf 71 15) rfl rfl (any_of HT_.out (by kernel_rfl)) (fun _ _ _ h => h) (Or.inl ⟨by rfl, ?_⟩) ?_ ?_
 rotate_left
 ·intro w'
  go_simp
  with_reducible rfl
 rotate_left
 ·simp only [Act.put, List.setIfInBounds_toArray, List.set_cons_zero, List.set_cons_succ, i64_w, i32_w]
  rfl
 refine pure_ (i := 71) (N := some 94) (v := ?_) (a' := ?_) (tf 72 14) rfl rfl (any_of HT_.out (by kernel_rfl)) (fun _ _ _ h => h) (Or.inl ⟨by rfl, ?_⟩) ?_ ?_
 rotate_left
 ·intro w'
  go_simp
  with_reducible rfl
 rotate_left
 ·simp only [Act.put, List.setIfInBounds_toArray, List.set_cons_zero, List.set_cons_succ, i64_w, i32_w]
  rfl
 refine pure_ (i := 72) (N := some 95) (v := ?_) (a' := ?_) (tf 73 13) rfl rfl (any_of HT_.out (by kernel_rfl)) (fun _ _ _ h => h) (Or.inl ⟨by rfl, ?_⟩) ?_ ?_
 rotate_left
 ·intro w'
  go_simp
  with_reducible rfl
 rotate_left
 ·simp only [Act.put, List.setIfInBounds_toArray, List.set_cons_zero, List.set_cons_succ, i64_w, i32_w]
  rfl
 refine pure_ (i := 75) (N := some 98) (v := ?_) (a' := ?_) #[true, true, true, true, true, true, true, true, true, true, true, true, true, true, true, true, true, true, true, true, true, true, true, true, true, true, true, true, true, true, true, true, true, true, true, true, true, true, true, true, true, true, true, true, true, true, true, true, true, true, true, true, true, true, true, true, true, true, true, true, true, true, true, true, true, true, true, true, true, true, true, true, true, false, false, true, false, false, false, false, false, false, false, false, false, false] rfl rfl (any_of HT_.out (by kernel_rfl)) (fun _ _ _ h => h) (Or.inl ⟨by rfl, ?_⟩) ?_ ?_
 rotate_left
 ·intro w'
  go_simp
  with_reducible rfl
 rotate_left
 ·simp only [Act.put, List.setIfInBounds_toArray, List.set_cons_zero, List.set_cons_succ, i64_w, i32_w]
  rfl
 refine take_ (i := 73) (N := some 96) (v := ?_) (a' := ?_) #[true, true, true, true, true, true, true, true, true, true, true, true, true, true, true, true, true, true, true, true, true, true, true, true, true, true, true, true, true, true, true, true, true, true, true, true, true, true, true, true, true, true, true, true, true, true, true, true, true, true, true, true, true, true, true, true, true, true, true, true, true, true, true, true, true, true, true, true, true, true, true, true, true, true, false, true, false, false, false, false, false, false, false, false, false, false] rfl rfl (take_ofW HT_.out HW_.out (by kernel_rfl)) (fun _ _ _ h => h) (Or.inl ⟨by rfl, ?_⟩) hHeld ?_ ?_
 rotate_left
 ·intro w' s0
  obtain ⟨x0, x1, x2, x3, x4, x5, x6⟩ := HC5.out w' s0
  go_simp
  with_reducible rfl
 rotate_left
 ·simp only [Act.put, List.setIfInBounds_toArray, List.set_cons_zero, List.set_cons_succ, i64_w, i32_w]
  rfl
 refine take_ (i := 74) (N := some 97) (v := ?_) (a' := ?_) (tf 76 10) rfl rfl (take_ofW HT_.out HW_.out (by kernel_rfl)) (fun _ _ _ h => h) (Or.inl ⟨by rfl, ?_⟩) hHeld ?_ ?_
 rotate_left
 ·intro w' s0
  obtain ⟨x0, x1, x2, _, _, _⟩ := bk3 (blk_below H25.out s0)
  go_simp
  with_reducible rfl
 rotate_left
 ·simp only [Act.put, List.setIfInBounds_toArray, List.set_cons_zero, List.set_cons_succ, i64_w, i32_w]
  rfl
 refine pure_ (i := 76) (N := some 99) (v := ?_) (a' := ?_) (tf 77 9) rfl rfl (any_of HT_.out (by kernel_rfl)) (fun _ _ _ h => h) (Or.inl ⟨by rfl, ?_⟩) ?_ ?_
 rotate_left
 ·intro w'
  go_simp
  with_reducible rfl
 rotate_left
 ·simp only [Act.put, List.setIfInBounds_toArray, List.set_cons_zero, List.set_cons_succ, i64_w, i32_w]
  rfl
 refine pure_ (i := 77) (N := some 100) (v := ?_) (a' := ?_) (tf 78 8) rfl rfl (any_of HT_.out (by kernel_rfl)) (fun _ _ _ h => h) (Or.inl ⟨by rfl, ?_⟩) ?_ ?_
 rotate_left
 ·intro w'
  go_simp
  with_reducible rfl
 rotate_left
 ·simp only [Act.put, List.setIfInBounds_toArray, List.set_cons_zero, List.set_cons_succ, i64_w, i32_w]
  rfl
 refine pure_ (i := 78) (N := some 101) (v := ?_) (a' := ?_) (tf 79 7) rfl rfl (any_of HT_.out (by kernel_rfl)) (fun _ _ _ h => h) (Or.inl ⟨by rfl, ?_⟩) ?_ ?_
 rotate_left
 ·intro w'
  go_simp
  with_reducible rfl
 rotate_left
 ·simp only [Act.put, List.setIfInBounds_toArray, List.set_cons_zero, List.set_cons_succ, i64_w, i32_w]
  rfl
 refine pure_ (i := 79) (N := some 102) (v := ?_) (a' := ?_) (tf 80 6) rfl rfl (any_of HT_.out (by kernel_rfl)) (fun _ _ _ h => h) (Or.inl ⟨by rfl, ?_⟩) ?_ ?_
 rotate_left
 ·intro w'
  go_simp
  with_reducible rfl
 rotate_left
 ·simp only [Act.put, List.setIfInBounds_toArray, List.set_cons_zero, List.set_cons_succ, i64_w, i32_w]
  rfl
 refine take_ (i := 80) (N := some 103) (v := ?_) (a' := ?_) (tf 81 5) rfl rfl (take_ofW HT_.out HW_.out (by kernel_rfl)) (fun _ _ _ h => h) (Or.inl ⟨by rfl, ?_⟩) hHeld ?_ ?_
 rotate_left
 ·intro w' s0
  obtain ⟨x0, x1, x2, _, _, _⟩ := bk3 (blk_below H15.out s0)
  go_simp
  with_reducible rfl
 rotate_left
 ·simp only [Act.put, List.setIfInBounds_toArray, List.set_cons_zero, List.set_cons_succ, i64_w, i32_w]
  rfl
 refine one_ (i := 81) (N := some 104) (tf 82 4) rfl rfl (one_of HT_.out (by kernel_rfl)) (by decide) (fun K hK => ?_)
 refine goes_ Tryd.func10 (by kernel_rfl) rfl #[.slice none 0 0, .agg #[.int .i64 1, .int .i64 3, .string ⟨#[84]⟩]] (by rfl) rfl rfl (by simp only [List.map_toArray, List.map_cons, List.map_nil]; rfl) ?_
 refine (node_First.calls 60 none 0 [] 1 3 ⟨#[84]⟩ [] _ (Kd.C_nil _ _) (Nat.le_refl _) first_A).mono ?_
 rintro e w981 ⟨v81, rfl, hr81, hb⟩
 refine ⟨_, rfl, ?_⟩
 obtain ⟨A81, c81, e81⟩ := Kd.R_slice hr81
 subst e81
 clear hr81
 refine hK.out _ _ (below_step hHeld hb) (fun hHeld => ?_)
 clear hK K
 refine norm_ (a' := ?_) ?_ ?_
 rotate_left
 ·show Act.put _ (some 104) _ = _
  simp only [Act.put, List.setIfInBounds_toArray, List.set_cons_zero, List.set_cons_succ, i64_w, i32_w]
  rfl
 refine pure_ (i := 82) (N := some 105) (v := ?_) (a' := ?_) (tf 83 3) rfl rfl (any_of HT_.out (by kernel_rfl)) (fun _ _ _ h => h) (Or.inl ⟨by rfl, ?_⟩) ?_ ?_
 rotate_left
 ·intro w'
  go_simp
  with_reducible rfl
 rotate_left
 ·simp only [Act.put, List.setIfInBounds_toArray, List.set_cons_zero, List.set_cons_succ, i64_w, i32_w]
  rfl
 refine pure_ (i := 83) (N := some 106) (v := ?_) (a' := ?_) (tf 84 2) rfl rfl (any_of HT_.out (by kernel_rfl)) (fun _ _ _ h => h) (Or.inl ⟨by rfl, ?_⟩) ?_ ?_
 rotate_left
 ·intro w'
  go_simp
  with_reducible rfl
 rotate_left
 ·simp only [Act.put, List.setIfInBounds_toArray, List.set_cons_zero, List.set_cons_succ, i64_w, i32_w]
  rfl
 refine pure_ (i := 84) (N := some 107) (v := ?_) (a' := ?_) (tf 85 1) rfl rfl (any_of HT_.out (by kernel_rfl)) (fun _ _ _ h => h) (Or.inl ⟨by rfl, ?_⟩) ?_ ?_
 rotate_left
 ·intro w'
  go_simp
  with_reducible rfl
 rotate_left
 ·simp only [Act.put, List.setIfInBounds_toArray, List.set_cons_zero, List.set_cons_succ, i64_w, i32_w]
  rfl
 refine pure_ (i := 85) (N := some 0) (v := ?_) (a' := ?_) (tf 86 0) rfl rfl (any_of HT_.out (by kernel_rfl)) (fun _ _ _ h => h) (Or.inl ⟨by rfl, ?_⟩) ?_ ?_
 rotate_left
 ·intro w'
  go_simp
  with_reducible rfl
 rotate_left
 ·simp only [Act.put, List.setIfInBounds_toArray, List.set_cons_zero, List.set_cons_succ, i64_w, i32_w]
  rfl
 refine done_ (done_of HT_.out (by kernel_rfl)) ?_
 go_wp2
 go_ret
 exact ⟨rfl, below_step HB5.out hHeld⟩
section
variable {α : Type}
end
theorem gb_step {w w1 w2 : World} {b : Nat} {row : Option Nat} (h : w.grownBy w1 (some b)) (k : w1.grownBy w2 row) (hq : ∀ q, row = some q → w.heap.size ≤ q ∨ q = b) : w.grownBy w2 (some b) := by
 refine ⟨k.os.trans h.os, k.tape.trans h.tape, k.output.trans h.output, Nat.le_trans h.size k.size, fun i hi hne => ?_⟩
 refine (k.block i (Nat.lt_of_lt_of_le hi h.size) ?_).trans (h.block i hi hne)
 intro e
 rcases hq i e.symm with hq | hq
 ·omega
 ·exact hne (by rw [hq])
theorem gb_refl (w : World) (row : Option Nat) : w.grownBy w row := ⟨rfl, rfl, rfl, Nat.le_refl _, fun _ _ _ => rfl⟩
theorem foldl_addR_mem (z : Nd) : ∀ (l r : List Nd), z ∈ l.foldl addR r ↔ z ∈ r ∨ z ∈ l
 | [], r => by simp
 | x :: l, r => by rw [List.foldl_cons, foldl_addR_mem z l, addR_mem, List.mem_cons]; exact or_assoc
theorem foldl_addR_up : ∀ (l r : List Nd), Up r → Up (l.foldl addR r)
 | [], r, h => h
 | x :: l, r, h => foldl_addR_up l _ (addR_up h)
theorem foldl_addR_perm {l l' r : List Nd} (hr : Up r) (h : l.Perm l') : l.foldl addR r = l'.foldl addR r :=
 up_ext (foldl_addR_up _ _ hr) (foldl_addR_up _ _ hr) (fun x => by rw [foldl_addR_mem, foldl_addR_mem, h.mem_iff])
set_option maxRecDepth 100000 in
set_option maxHeartbeats 8000000 in
theorem maps_Copy (b : Nat) (m : Option Nat) (s r : List Nd) (w : World) (h : SetR w b s) (h2 : SetO w m r) (hmb : ∀ b', m = some b' → some b' ≠ some b) (hlen : s.length + r.length ≤ 1000000) :
  Calls Tryd.prog 39 #[.map (some b), .map m] w fun e w' => e = .returned (.tuple #[]) ∧ SetR w' b (r.foldl addR s) ∧ w.grownBy w' (some b) := by
 have HMB := Aside0.mk hmb
 have HS0 := Aside0.mk h; have HM0 := Aside0.mk h2
 have HBL := Aside0.mk h.lt; have HUP := Aside0.mk h.up
 clear h h2
 go_enter Tryd.func39, Tryd.ntmps39
 go_wp2_with (at_range; refine RunO.start_op HM0.out rfl (.tmp 6) rfl rfl ?_)
 intro w1 hr hb
 have HR := Aside0.mk hr
 have HS1 := Aside0.mk (HS0.out.below hb)
 have HG1 : Aside0 (w.grownBy w1 (some b)) := ⟨gb_step (gb_refl w _) (grown_of_below hb none) (fun q hq => by cases hq)⟩
 clear hr hb HS0 HM0
 obtain ⟨q, hq⟩ : ∃ q, q = w.heap.size := ⟨_, rfl⟩
 rw [← hq] at HR ⊢
 have HQ := Aside0.mk hq
 clear hq
 go_wp2_with fail
 go_loopw [8] (fun _ wr => ∃ done : List Nd, Aside0 (RunO wr m q r done) ∧ Aside0 (SetR wr b (done.foldl addR s)) ∧ Aside0 (w.grownBy wr (some b)) ∧ Aside0 (done.length ≤ r.length)) (fun _ wr => leftO m q wr)
 case atStart => exact ⟨[], HR, HS1, HG1, ⟨Nat.zero_le _⟩⟩
 case round =>
  clear HR HS1 HG1
  obtain ⟨done, HR, HS, HG, HD⟩ := hrel
  go_wp2_with (at_next; refine RunO.next_op HR.out rfl (.tmp 7) rfl rfl ?_ ?_)
  ·intro hperm
   have HS9 : Aside0 (SetR wr b (r.foldl addR s)) := ⟨by rw [← foldl_addR_perm HUP.out hperm]; exact HS.out⟩
   clear hperm
   go_wp2
   go_end0
   exact ⟨rfl, HS9.out, HG.out⟩
  ·intro x w5 hx hn hl hr2 hg hsz hlt hen
   have hxw : ndW x := HR.out.set.wf x hx
   have hqb : q ≠ b := by have := HQ.out; have := HBL.out; omega
   have HN2 : Aside0 (SetR (w5.alloc (.cells #[.int .i64 x.f0, .int .i64 x.f1, .string x.f2] 24)) b (done.foldl addR s)) := ⟨(HS.out.kept hg (by simp; omega)).alloc _⟩
   have HR2 := Aside0.mk (hr2.below (below_alloc (Below.refl _ _) (.cells #[.int .i64 x.f0, .int .i64 x.f1, .string x.f2] 24)))
   have HG2 : Aside0 (w.grownBy (w5.alloc (.cells #[.int .i64 x.f0, .int .i64 x.f1, .string x.f2] 24)) (some b)) := ⟨gb_step (gb_step HG.out hg (fun q' hq' => by injection hq' with hq'; left; have := HQ.out; omega)) (World.grownBy_alloc w5 _ none) (fun q hq => by cases hq)⟩
   have HLT : Aside0 (leftO m q (w5.alloc (.cells #[.int .i64 x.f0, .int .i64 x.f1, .string x.f2] 24)) < leftO m q wr) := ⟨by
    rw [left_alloc hr2 _]; exact hlt⟩
   have HXW := Aside0.mk hxw; have HQB := Aside0.mk hqb
   have HLN : Aside0 ((done ++ [x]).length ≤ r.length) := ⟨by rw [List.length_append, List.length_singleton]; omega⟩
   have HN : Aside0 ((done.foldl addR s).length < maxLen) := ⟨by
    have := foldl_le done s; have := HD.out
    unfold maxLen; omega⟩
   unfold ndV at hen ⊢
   clear hr2 hlt hx hn hl hsz hg HR HG HS hxw hqb
   go_wp2_with (at_mapUpdate; refine SetR.update_op HN2.out rfl (.tmp 13) (.tmp 14) (.tmp 15) rfl rfl HN.out x rfl rfl HXW.out ?_)
   intro w6 hs6 hg6
   have HT3 : Aside0 (SetR w6 b ((done ++ [x]).foldl addR s)) := ⟨by rw [List.foldl_append]; exact hs6⟩
   have HLT6 : Aside0 (leftO m q w6 < leftO m q wr) := ⟨by
    rw [left_kept HR2.out hg6 HMB.out (by have := HQB.out; simpa using this)]; exact HLT.out⟩
   have HR6 := Aside0.mk (HR2.out.kept hg6 HMB.out (by have := HQB.out; simpa using this))
   have HG6 := Aside0.mk (gb_step HG2.out hg6 (fun q' hq' => by injection hq' with hq'; right; exact hq'.symm))
   clear hs6 hg6 HN2 HR2 HG2 HLT
   go_wp2
   go_roundw
   case rel => exact ⟨done ++ [x], HR6, HT3, HG6, HLN⟩
   case measure => exact HLT6.out
set_option maxRecDepth 100000 in
set_option maxHeartbeats 8000000 in
theorem set_Join (m n : Option Nat) (r s : List Nd) (w : World) (h : SetO w m r) (h2 : SetO w n s) (hlen : r.length + s.length ≤ 1000000) :
  Calls Tryd.prog 21 #[.agg #[.map m], .agg #[.map n]] w fun e w' => ∃ b, e = .returned (.agg #[.map (some b)]) ∧ w.heap.size ≤ b ∧ SetR w' b (s.foldl addR r) ∧ Below w.heap.size w w' := by
 have HB := Aside0.mk (below_alloc (below_alloc (below_alloc (Below.refl w.heap.size w) (.cells #[.map m] 50)) (.cells #[.map n] 50)) (.cells #[.map none] 50))
 have HM := Aside0.mk (((h.alloc (.cells #[.map m] 50)).alloc (.cells #[.map n] 50)).alloc (.cells #[.map none] 50))
 have HN := Aside0.mk (((h2.alloc (.cells #[.map m] 50)).alloc (.cells #[.map n] 50)).alloc (.cells #[.map none] 50))
 have HTA : Aside0 ((((w.alloc (.cells #[.map m] 50)).alloc (.cells #[.map n] 50)).alloc (.cells #[.map none] 50)).heap[w.heap.size]? = some (.cells #[.map m] 50 (0, 0))) := ⟨blk_alloc (blk_alloc (blk_new _ _) _) _⟩
 have HTB : Aside0 ((((w.alloc (.cells #[.map m] 50)).alloc (.cells #[.map n] 50)).alloc (.cells #[.map none] 50)).heap[w.heap.size + 1]? = some (.cells #[.map n] 50 (0, 0))) := ⟨by
  have := blk_alloc (blk_new (w.alloc (.cells #[.map m] 50)) (.cells #[.map n] 50)) (.cells #[.map none] 50)
  rw [World.size_alloc] at this
  exact this⟩
 have HZ : Aside0 ((((w.alloc (.cells #[.map m] 50)).alloc (.cells #[.map n] 50)).alloc (.cells #[.map none] 50)).heap[w.heap.size + 1 + 1]? = some (.cells #[.map none] 50 (0, 0))) := ⟨by
  have := blk_new ((w.alloc (.cells #[.map m] 50)).alloc (.cells #[.map n] 50)) (.cells #[.map none] 50)
  rw [World.size_alloc, World.size_alloc] at this
  exact this⟩
 have HSZ : Aside0 ((((w.alloc (.cells #[.map m] 50)).alloc (.cells #[.map n] 50)).alloc (.cells #[.map none] 50)).heap.size = w.heap.size + 1 + 1 + 1) := ⟨by rw [World.size_alloc, World.size_alloc, World.size_alloc]⟩
 have HUP := Aside0.mk h.up
 clear h h2
 go_enter Tryd.func21, Tryd.ntmps21
 go_wp2_with fail
 generalize (((w.alloc (.cells #[.map m] 50)).alloc (.cells #[.map n] 50)).alloc (.cells #[.map none] 50)) = w1 at HB HM HN HTA HTB HZ HSZ ⊢
 refine (node_Of none 0 [] w1 (Kd.C_nil _ _) (Nat.le_refl _) (fun x hx => (nomatch hx)) (Nat.zero_le _)).mono ?_
 rintro e w2 ⟨b, rfl, hb1, hs, hb2⟩
 have HS : Aside0 (SetR (w2.alloc (.cells #[.map (some b)] 50)) b []) := ⟨hs.alloc _⟩
 have hbl : Below w1.heap.size w1 (w2.alloc (.cells #[.map (some b)] 50)) := below_alloc hb2 _
 have HB2 := Aside0.mk (below_step HB.out hbl)
 have HM2 := Aside0.mk (HM.out.below hbl)
 have HN2 := Aside0.mk (HN.out.below hbl)
 have HTA2 := Aside0.mk (blk_below HTA.out hbl)
 have HTB2 := Aside0.mk (blk_below HTB.out hbl)
 have HZ2 := Aside0.mk (blk_below HZ.out hbl)
 have HS2 : Aside0 ((w2.alloc (.cells #[.map (some b)] 50)).heap[w2.heap.size]? = some (.cells #[.map (some b)] 50 (0, 0))) := ⟨blk_new _ _⟩
 have ne_of : ∀ {k : Option Nat} {t : List Nd}, SetO w1 k t → ∀ b', k = some b' → some b' ≠ some b := by
  rintro k t hk b' rfl e
  have := SetR.lt (show SetR w1 b' t from hk)
  injection e with e; omega
 have HMB := Aside0.mk (ne_of HM.out)
 have HNB := Aside0.mk (ne_of HN.out)
 have HBL : Aside0 (b < w2.heap.size) := ⟨hs.lt⟩
 have HBG : Aside0 (w.heap.size + 1 + 1 + 1 ≤ b) := ⟨by rw [← HSZ.out]; exact hb1⟩
 clear hb1 hs hb2 hbl HB HM HN HTA HTB HZ HSZ ne_of
 go_upto_region 2 with (fail)
 generalize w2.alloc (.cells #[.map (some b)] 50) = w3 at HS HB2 HM2 HN2 HTA2 HTB2 HZ2 HS2 ⊢
 generalize w2.heap.size = gs at HS2 HBL ⊢
 have ht1 := bk1 HTA2.out; have ht2 := bk1 HS2.out
 go_wp2_with fail
 refine (maps_Copy b m [] r w3 HS.out HM2.out HMB.out (by simp; omega)).mono ?_
 rintro e w4 ⟨rfl, hs4, hg4⟩
 have hr4 : r.foldl addR [] = r := ofL_eq HUP.out (fun x => Iff.rfl)
 rw [hr4] at hs4
 have HS4 := Aside0.mk hs4
 have HB4 := Aside0.mk (HB2.out.grown hg4 HB2.out.size (fun j hj => by injection hj with hj; have := HBG.out; omega))
 have HN4 := Aside0.mk (HN2.out.kept hg4 HNB.out)
 have HTB4 := Aside0.mk (blk_grown HTB2.out hg4 (by have := HBG.out; simp; omega))
 have HZ4 := Aside0.mk (blk_grown HZ2.out hg4 (by have := HBG.out; simp; omega))
 have HG4 := Aside0.mk (blk_grown HS2.out hg4 (by have := HBL.out; simp; omega))
 clear ht1 ht2 hs4 hg4 hr4 HS HB2 HM2 HN2 HTA2 HTB2 HZ2 HS2 HMB
 have ht1 := bk1 HTB4.out; have ht2 := bk1 HG4.out
 go_wp2_with fail
 refine (maps_Copy b n r s w4 HS4.out HN4.out HNB.out hlen).mono ?_
 rintro e w5 ⟨rfl, hs5, hg5⟩
 have HS5 := Aside0.mk hs5
 have HB5 := Aside0.mk (HB4.out.grown hg5 HB4.out.size (fun j hj => by injection hj with hj; have := HBG.out; omega))
 have HZ5 := Aside0.mk (blk_grown HZ4.out hg5 (by have := HBG.out; simp; omega))
 have HG5 := Aside0.mk (blk_grown HG4.out hg5 (by have := HBL.out; simp; omega))
 clear ht1 ht2 hs5 hg5 HS4 HB4 HN4 HTB4 HZ4 HG4 HNB
 have hs0 := bk1 HG5.out; have hz0 := bk1 HZ5.out
 have HBS := Aside0.mk (HB5.out.setCell (p := ⟨w.heap.size + 1 + 1, 0, none⟩) (show w.heap.size ≤ w.heap.size + 1 + 1 by omega) (.map (some b)))
 have HZ9 := Aside0.mk (blk_put HZ5.out 0 (.map (some b)) rfl)
 have HM10 := Aside0.mk (HS5.out.kept (grownBy_setCell' w5 (w.heap.size + 1 + 1) (.map (some b))) (by have := HBG.out; simp; omega))
 clear HS5 HZ5 HB5
 go_wp2
 generalize w5.setCell ⟨w.heap.size + 1 + 1, 0, none⟩ (.map (some b)) = w9 at HBS HZ9 HM10 ⊢
 refine bodyPost_ret (results_cell_row rfl _ _ (w.heap.size + 1 + 1) 50 #[.map (some b)] (0, 0) _ rfl HZ9.out Tryd.underlying50 rfl (by kernel_rfl)) rfl ?_
 exact ⟨_, rfl, by have := HBG.out; omega, HM10.out, HBS.out⟩
def set_With.T1 : Bool × List (List Nat × List Nat) := (true, [([], []), ([], []), ([1], [1]), ([2], [2]), ([0, 3, 3], [0, 3]), ([4, 4, 0, 1, 2, 3, 4], [4])])
def set_With.B1 : List Nat := [0, 0, 2, 6, 15, 31]
theorem set_With.tab1 : rtab .any (opsOf Tryd.f22 1) = set_With.T1 := by kernel_rfl
theorem set_With.bits1 : waitsOk set_With.T1.2 set_With.B1 = true := by kernel_rfl
set_option maxRecDepth 100000 in
set_option maxHeartbeats 8000000 in
theorem set_With (m : Option Nat) (r : List Nd) (x : Nd) (w : World) (h : SetO w m r) (hx : ndW x) (hlen : r.length + 1 ≤ 1000000) :
  Calls Tryd.prog 22 #[.agg #[.map m], ndV x] w fun e w' => ∃ b, e = .returned (.agg #[.map (some b)]) ∧ w.heap.size ≤ b ∧ SetR w' b (addR r x) ∧ Below w.heap.size w w' := by
 have HB2 := Aside0.mk (below_alloc (below_alloc (below_alloc (Below.refl w.heap.size w) (.cells #[.map m] 50)) (.cells #[.int .i64 x.f0, .int .i64 x.f1, .string x.f2] 24)) (.cells #[.map none] 50))
 have HM2 := Aside0.mk (((h.alloc (.cells #[.map m] 50)).alloc (.cells #[.int .i64 x.f0, .int .i64 x.f1, .string x.f2] 24)).alloc (.cells #[.map none] 50))
 have HA2 : Aside0 ((((w.alloc (.cells #[.map m] 50)).alloc (.cells #[.int .i64 x.f0, .int .i64 x.f1, .string x.f2] 24)).alloc (.cells #[.map none] 50)).heap[w.heap.size]? = some (.cells #[.map m] 50 (0, 0))) := ⟨blk_alloc (blk_alloc (blk_new _ _) _) _⟩
 have HX2 : Aside0 ((((w.alloc (.cells #[.map m] 50)).alloc (.cells #[.int .i64 x.f0, .int .i64 x.f1, .string x.f2] 24)).alloc (.cells #[.map none] 50)).heap[w.heap.size + 1]? = some (.cells #[.int .i64 x.f0, .int .i64 x.f1, .string x.f2] 24 (0, 0))) := ⟨by
  have := blk_alloc (blk_new (w.alloc (.cells #[.map m] 50)) (.cells #[.int .i64 x.f0, .int .i64 x.f1, .string x.f2] 24)) (.cells #[.map none] 50)
  rw [World.size_alloc] at this
  exact this⟩
 have HZ2 : Aside0 ((((w.alloc (.cells #[.map m] 50)).alloc (.cells #[.int .i64 x.f0, .int .i64 x.f1, .string x.f2] 24)).alloc (.cells #[.map none] 50)).heap[w.heap.size + 1 + 1]? = some (.cells #[.map none] 50 (0, 0))) := ⟨by
  have := blk_new ((w.alloc (.cells #[.map m] 50)).alloc (.cells #[.int .i64 x.f0, .int .i64 x.f1, .string x.f2] 24)) (.cells #[.map none] 50)
  rw [World.size_alloc, World.size_alloc] at this
  exact this⟩
 have HXW := Aside0.mk hx; have HLN := Aside0.mk hlen
 have HGZ : Aside0 (w.heap.size ≤ w.heap.size + 1 + 1) := ⟨by omega⟩
 clear h hx
 unfold ndV
 go_enter Tryd.func22, Tryd.ntmps22
 go_upto_region 1 with (fail)
 generalize (((w.alloc (.cells #[.map m] 50)).alloc (.cells #[.int .i64 x.f0, .int .i64 x.f1, .string x.f2] 24)).alloc (.cells #[.map none] 50)) = w2 at HB2 HM2 HA2 HX2 HZ2 ⊢
 have HB3 := Aside0.mk (below_drew1 HB2.out)
 have hd : Below w2.heap.size w2 w2.drew := below_drew (Below.refl _ _)
 have HM3 := Aside0.mk (HM2.out.below hd)
 have HA3 := Aside0.mk (blk_drew HA2.out); have HX3 := Aside0.mk (blk_drew HX2.out); have HZ3 := Aside0.mk (blk_drew HZ2.out)
 clear HB2 HM2 HA2 HX2 HZ2 hd
 generalize w.heap.size + 1 + 1 = gz at HZ3 HGZ ⊢
 generalize w.heap.size + 1 = gx at HX3 ⊢
 obtain ⟨ga, hga⟩ : ∃ ga, ga = w.heap.size := ⟨_, rfl⟩
 rw [← hga] at HA3 ⊢
 clear hga
 refine start_ (n := 6) (S := fun w' => w'.cell? ⟨ga, 0, none⟩ = some (.map m) ∧ w'.cell? ⟨gx, 0, none⟩ = some (.int .i64 x.f0) ∧ w'.cell? ⟨gx, 1, none⟩ = some (.int .i64 x.f1) ∧ w'.cell? ⟨gx, 2, none⟩ = some (.string x.f2) ∧ w'.heap[gz]? = some (.cells #[.map none] 50 (0, 0))) (ds := [5]) (tf 0 6) (by kernel_rfl) rfl rfl ⟨(bk1 HA3.out).1, (bk3 HX3.out).1, (bk3 HX3.out).2.1, (bk3 HX3.out).2.2.1, HZ3.out⟩ (fun hHeld => ?_)
 refine with_tabW set_With.tab1 set_With.bits1 (fun HT_ HW_ => ?_)
 generalize w2.drew = w3 at HB3 HM3 HA3 HX3 HZ3 hHeld ⊢
 refine take_ (i := 0) (N := some 5) (v := ?_) (a' := ?_) (tf 1 5) rfl rfl (take_ofW HT_.out HW_.out (by kernel_rfl)) (fun _ _ _ h => h) (Or.inl ⟨by rfl, ?_⟩) hHeld ?_ ?_
 rotate_left
 ·rintro w' ⟨s0, s1, s2, s3, s4⟩
  go_simp
  with_reducible rfl
 rotate_left
 ·simp only [Act.put, List.setIfInBounds_toArray, List.set_cons_zero, List.set_cons_succ, i64_w, i32_w]
  rfl
 refine take_ (i := 1) (N := some 6) (v := ?_) (a' := ?_) (tf 2 4) rfl rfl (take_ofW HT_.out HW_.out (by kernel_rfl)) (fun _ _ _ h => h) (Or.inl ⟨by rfl, ?_⟩) hHeld ?_ ?_
 rotate_left
 ·rintro w' ⟨s0, s1, s2, s3, s4⟩
  go_simp
  with_reducible rfl
 rotate_left
 ·simp only [Act.put, List.setIfInBounds_toArray, List.set_cons_zero, List.set_cons_succ, i64_w, i32_w]
  rfl
 refine one_ (i := 2) (N := some 7) (tf 3 3) rfl rfl (one_of HT_.out (by kernel_rfl)) (by decide) (fun K hK => ?_)
 refine Kd.R_lit_step k24 (w0 := w3) w3.heap.size 24 (by rfl) (N := 7) rfl (xs := [x]) (inner := [.int .i64 x.f0, .int .i64 x.f1, .string x.f2]) (ok := fun _ => True) (okp := fun _ => True) ?hr ?hp (fun _ hk => hk) trivial (Below.refl _ _) (Nat.le_refl _) (by simp) ?_
 case hr => first | (go_simp; done) | (go_simp; rfl)
 case hp => exact Reps.snoc (Reps.none _ _) (k24_mkM _ _ _ x) rfl
 intro v7 w4 ho7 hb4 _ _
 obtain ⟨A7, c7, rfl, hc7, hC7⟩ := Kd.R_reads ho7
 have HC7 := Aside0.mk hC7; have Hc7 := Aside0.mk hc7
 have HA4 := Aside0.mk (blk_below HA3.out hb4)
 have HX4 := Aside0.mk (blk_below HX3.out hb4)
 have HZ4 := Aside0.mk (blk_below HZ3.out hb4)
 have HM4 := Aside0.mk (HM3.out.below hb4)
 have HB4 := Aside0.mk (below_step HB3.out hb4)
 clear HA3 HX3 HZ3 HM3 HB3
 clear ho7 hb4 hC7 hc7
 refine hK.out _ _ ⟨(bk1 HA4.out).1, (bk3 HX4.out).1, (bk3 HX4.out).2.1, (bk3 HX4.out).2.2.1, HZ4.out⟩ (fun hHeld => ?_)
 clear hK K
 refine norm_ (a' := ?_) ?_ ?_
 rotate_left
 ·show Act.put _ (some 7) _ = _
  simp only [Act.put, List.setIfInBounds_toArray, List.set_cons_zero, List.set_cons_succ, i64_w, i32_w]
  rfl
 refine one_ (i := 3) (N := some 8) (tf 4 2) rfl rfl (one_of HT_.out (by kernel_rfl)) (by decide) (fun K hK => ?_)
 refine goes_ Tryd.func17 (by kernel_rfl) rfl #[.slice A7 [x].length c7] (by rfl) rfl rfl (by simp only [List.map_toArray, List.map_cons, List.map_nil]; rfl) ?_
 refine (node_Of A7 c7 [x] w4 HC7.out Hc7.out (fun z hz => by rw [List.mem_singleton.mp hz]; exact HXW.out) (by simp)).mono ?_
 rintro e w5 ⟨b, rfl, hb1, hs, hb5⟩
 refine ⟨_, rfl, ?_⟩
 have HO5 : Aside0 (SetR w5 b [x]) := ⟨hs⟩
 have HA5 := Aside0.mk (blk_below HA4.out hb5)
 have HX5 := Aside0.mk (blk_below HX4.out hb5)
 have HZ5 := Aside0.mk (blk_below HZ4.out hb5)
 have HM5 := Aside0.mk (HM4.out.below hb5)
 have HB5 := Aside0.mk (below_step HB4.out hb5)
 clear HA4 HX4 HZ4 HM4 HB4
 clear hb1 hs hb5 HC7 Hc7
 refine hK.out _ _ ⟨(bk1 HA5.out).1, (bk3 HX5.out).1, (bk3 HX5.out).2.1, (bk3 HX5.out).2.2.1, HZ5.out⟩ (fun hHeld => ?_)
 clear hK K
 refine norm_ (a' := ?_) ?_ ?_
 rotate_left
 ·show Act.put _ (some 8) _ = _
  simp only [Act.put, List.setIfInBounds_toArray, List.set_cons_zero, List.set_cons_succ, i64_w, i32_w]
  rfl
 refine one_ (i := 4) (N := some 9) (tf 5 1) rfl rfl (one_of HT_.out (by kernel_rfl)) (by decide) (fun K hK => ?_)
 refine goes_ Tryd.func21 (by kernel_rfl) rfl #[.agg #[.map m], .agg #[.map (some b)]] (by rfl) rfl rfl (by simp only [List.map_toArray, List.map_cons, List.map_nil]; rfl) ?_
 refine (set_Join m (some b) r [x] w5 HM5.out HO5.out (by simpa using HLN.out)).mono ?_
 rintro e w6 ⟨b6, rfl, hb1, hs, hb6⟩
 refine ⟨_, rfl, ?_⟩
 have HO6 : Aside0 (SetR w6 b6 (addR r x)) := ⟨hs⟩
 have HBG : Aside0 (w.heap.size ≤ b6) := ⟨Nat.le_trans HB5.out.size hb1⟩
 have HBW : Aside0 (w5.heap.size ≤ b6) := ⟨hb1⟩
 have HZL : Aside0 (gz < w5.heap.size) := ⟨blk_lt HZ5.out⟩
 have HA6 := Aside0.mk (blk_below HA5.out hb6)
 have HX6 := Aside0.mk (blk_below HX5.out hb6)
 have HZ6 := Aside0.mk (blk_below HZ5.out hb6)
 have HM6 := Aside0.mk (HM5.out.below hb6)
 have HB6 := Aside0.mk (below_step HB5.out hb6)
 clear HA5 HX5 HZ5 HM5 HB5
 clear hb1 hs hb6 HO5
 refine hK.out _ _ ⟨(bk1 HA6.out).1, (bk3 HX6.out).1, (bk3 HX6.out).2.1, (bk3 HX6.out).2.2.1, HZ6.out⟩ (fun hHeld => ?_)
 clear hK K
 refine norm_ (a' := ?_) ?_ ?_
 rotate_left
 ·show Act.put _ (some 9) _ = _
  simp only [Act.put, List.setIfInBounds_toArray, List.set_cons_zero, List.set_cons_succ, i64_w, i32_w]
  rfl
 refine last_ (i := 5) (N := none) (tf 6 0) rfl rfl (one_of HT_.out (by kernel_rfl)) (by decide) (fun K hK => ?_)
 obtain ⟨z0, z1⟩ := bk1 HZ6.out
 refine skip_ (w1 := ?_) (by rfl) rfl ?_ ?_
 rotate_left
 ·go_simp
  rfl
 refine hK.out _ _ ?_
 clear hK K
 refine done_ (done_of HT_.out (by kernel_rfl)) ?_
 have HBS := Aside0.mk (HB6.out.setCell (p := ⟨gz, 0, none⟩) HGZ.out (.map (some b6)))
 have HZ9 := Aside0.mk (blk_put HZ6.out 0 (.map (some b6)) rfl)
 have HM10 := Aside0.mk (HO6.out.kept (grownBy_setCell' w6 gz (.map (some b6))) (by have := HZL.out; have := HBW.out; simp; omega))
 clear HO6 HZ6 HB6
 go_wp2
 generalize w6.setCell ⟨gz, 0, none⟩ (.map (some b6)) = w9 at HBS HZ9 HM10 ⊢
 refine bodyPost_ret (results_cell_row rfl _ _ gz 50 #[.map (some b6)] (0, 0) _ rfl HZ9.out Tryd.underlying50 rfl (by kernel_rfl)) rfl ?_
 exact ⟨_, rfl, HBG.out, HM10.out, HBS.out⟩
def jP (X Y Z : List Nd) : List Nd := Z.foldl addR (Y.foldl addR X)
theorem jP_up {X Y Z : List Nd} (hX : Up X) : Up (jP X Y Z) := foldl_addR_up _ _ (foldl_addR_up _ _ hX)
theorem jP_mem {X Y Z : List Nd} (n : Nd) : n ∈ jP X Y Z ↔ (n ∈ X ∨ n ∈ Y) ∨ n ∈ Z := by
 unfold jP; rw [foldl_addR_mem, foldl_addR_mem]
theorem jP_other {X Y Z : List Nd} (hX : Up X) (hY : Up Y) (hZ : Up Z) : (X.foldl addR Y).foldl addR Z = jP X Y Z := by
 refine up_ext (foldl_addR_up _ _ hZ) (jP_up hX) (fun n => ?_)
 rw [foldl_addR_mem, foldl_addR_mem, jP_mem]
 constructor
 ·rintro (h | h | h)
  ·exact .inr h
  ·exact .inl (.inr h)
  ·exact .inl (.inl h)
 ·rintro ((h | h) | h)
  ·exact .inr (.inr h)
  ·exact .inr (.inl h)
  ·exact .inl h
theorem jP_again {X Y Z : List Nd} (hX : Up X) : X.foldl addR (jP X Y Z) = jP X Y Z := by
 refine up_ext (foldl_addR_up _ _ (jP_up hX)) (jP_up hX) (fun n => ?_)
 rw [foldl_addR_mem]
 exact ⟨fun h => h.elim id (fun h => (jP_mem n).mpr (.inl (.inl h))), .inl⟩
theorem jP_len (X Y Z : List Nd) : (jP X Y Z).length ≤ X.length + Y.length + Z.length := by
 unfold jP
 have h1 := foldl_le Z (Y.foldl addR X)
 have h2 := foldl_le Y X
 omega
theorem cmp_at {P : List Nd} (h : Up P) {i k : Nat} (hi : i < P.length) (hk : k < P.length) :
  (cmpN P[i] P[k] == 0) = ((i : Int) == (k : Int)) ∧ decide (cmpN P[i] P[k] < 0) = decide ((i : Int) < (k : Int)) ∧ wrap64 (-(cmpN P[k] P[i])) = cmpN P[i] P[k] := by
 have hp := List.pairwise_iff_getElem.mp h
 rcases Nat.lt_trichotomy i k with e | e | e
 ·have h1 := hp i k hi hk e
  have h2 := ltN_asymm h1
  have c1 : cmpN P[i] P[k] = -1 := by unfold cmpN; rw [if_pos h1]
  have c2 : cmpN P[k] P[i] = 1 := by unfold cmpN; rw [h2, if_neg (by decide), if_pos h1]
  rw [c1, c2]
  refine ⟨?_, ?_, by unfold wrap64; omega⟩
  ·rw [beq_eq_false_iff_ne.mpr (show (i : Int) ≠ (k : Int) by omega)]; rfl
  ·rw [decide_eq_true (show (i : Int) < (k : Int) by omega)]; rfl
 ·subst e
  have c1 : cmpN P[i] P[i] = 0 := by unfold cmpN; rw [ltN_irrefl, if_neg (by decide), if_neg (by decide)]
  rw [c1]
  exact ⟨by simp, by simp, by unfold wrap64; omega⟩
 ·have h1 := hp k i hk hi e
  have h2 := ltN_asymm h1
  have c1 : cmpN P[k] P[i] = -1 := by unfold cmpN; rw [if_pos h1]
  have c2 : cmpN P[i] P[k] = 1 := by unfold cmpN; rw [h2, if_neg (by decide), if_pos h1]
  rw [c1, c2]
  refine ⟨?_, ?_, by unfold wrap64; omega⟩
  ·rw [beq_eq_false_iff_ne.mpr (show (i : Int) ≠ (k : Int) by omega)]; rfl
  ·rw [decide_eq_false (show ¬ (i : Int) < (k : Int) by omega)]; rfl
end Go.Proofs.YtgidnkmlnccaiaaDoor.Q
