/- What the row of NodeExact rests on, part 1: contracts of the functions that it reaches, and the plain law. -/
import Derived.Test.YtgidnkmlnccaiaaDoorJNodeExact0
namespace Go.Proofs.YtgidnkmlnccaiaaDoor.Q
open Go.RowKit Go.Proofs.YtgidnkmlnccaiaaDoorW.PrintWords Go.Proofs.YtgidnkmlnccaiaaDoorW.PrintLast Go.Proofs.YtgidnkmlnccaiaaDoorW.PrintMore
attribute [local go_sem] max2_int min2_int max_two min_two max_three min_three max_four min_four   -- for this text's walks alone
set_option linter.unusedVariables false
set_option linter.unusedSimpArgs false
/-! ### node_Text: function 13 -/
mutual
def node_Text.j0 : Nat → Bool → Int → Int → ByteArray → Option (ByteArray)
 | 0, _, _, _, _ => none
 | k + 1, x11, x178000, x178001, x178002 => if x11 = true then (some (⟨#[]⟩ : ByteArray)) else ((some (([(⟨#[]⟩ : ByteArray), (⟨#[115, 105, 116, 101]⟩ : ByteArray), (⟨#[111, 117, 116, 101, 114]⟩ : ByteArray), (⟨#[99, 97, 108, 108, 101, 101]⟩ : ByteArray), (⟨#[101, 118, 101, 114, 121]⟩ : ByteArray)] : List ByteArray) : List ByteArray)).bind fun y178 => (if 0 ≤ x178000 then (if x178000 < (y178.length : Int) then ((some (([rdOf ByteArray.empty y178 x178000] : List ByteArray) : List ByteArray)).bind fun y182 => (if x178000 = 1 then (node_Text.j1 k y182 true x178000 x178001 x178002) else (node_Text.j1 k y182 (x178000 == 3) x178000 x178001 x178002))) else (none)) else (none)))
def node_Text.j1 : Nat → List ByteArray → Bool → Int → Int → ByteArray → Option (ByteArray)
 | 0, _, _, _, _, _ => none
 | k + 1, x3, x25, x178000, x178001, x178002 => if x25 = true then ((strconv_Itoa_36.f x178001).bind fun t185 => (if x3.length < 8796093022208 then ((some (x3 ++ [t185] : List ByteArray)).bind fun y186 => (if y186.length < 8796093022208 then ((strings_Join.f (y186 ++ [x178002]) (⟨#[32]⟩ : ByteArray)).bind fun t192 => (some t192)) else (none))) else (none))) else (if x3.length < 8796093022208 then ((strings_Join.f (x3 ++ [x178002]) (⟨#[32]⟩ : ByteArray)).bind fun t196 => (some t196)) else (none))
end
def node_Text.f (k : Nat) (a0_0 : Int) (a0_1 : Int) (a0_2 : ByteArray) : Option (ByteArray) := if a0_0 < 1 then (node_Text.j0 k true a0_0 a0_1 a0_2) else (node_Text.j0 k (decide (a0_0 > 4)) a0_0 a0_1 a0_2)
theorem node_Text.mono_l : ∀ k, (∀ y0 y1 y2 y3, LeO (node_Text.j0 k y0 y1 y2 y3) (node_Text.j0 (k + 1) y0 y1 y2 y3)) ∧ (∀ y0 y1 y2 y3 y4, LeO (node_Text.j1 k y0 y1 y2 y3 y4) (node_Text.j1 (k + 1) y0 y1 y2 y3 y4))
 | 0 => ⟨fun _ _ _ _ r h => by simp [node_Text.j0] at h, fun _ _ _ _ _ r h => by simp [node_Text.j1] at h⟩
 | k + 1 => by
  obtain ⟨ih0, ih1⟩ := node_Text.mono_l k
  refine ⟨?_, ?_⟩
  ·intro y0 y1 y2 y3
   unfold node_Text.j0
   repeat' first
   | (with_reducible exact ih0 _ _ _ _)
   | (with_reducible exact ih1 _ _ _ _ _)
   | (with_reducible exact LeO.refl _)
   | (with_reducible exact LeO.none _)
   | (with_reducible refine LeO.ite ?_ ?_)
   | (with_reducible refine LeO.bind ?_ (fun _ => ?_))
   | exact ih0 _ _ _ _
   | exact ih1 _ _ _ _ _
   | exact LeO.none _
   | refine LeO.ite ?_ ?_
   | refine LeO.bind ?_ (fun _ => ?_)
  ·intro y0 y1 y2 y3 y4
   unfold node_Text.j1
   repeat' first
   | (with_reducible exact ih0 _ _ _ _)
   | (with_reducible exact ih1 _ _ _ _ _)
   | (with_reducible exact LeO.refl _)
   | (with_reducible exact LeO.none _)
   | (with_reducible refine LeO.ite ?_ ?_)
   | (with_reducible refine LeO.bind ?_ (fun _ => ?_))
   | exact ih0 _ _ _ _
   | exact ih1 _ _ _ _ _
   | exact LeO.none _
   | refine LeO.ite ?_ ?_
   | refine LeO.bind ?_ (fun _ => ?_)
theorem node_Text.mono : ∀ a0 a1 a2 k, LeO (node_Text.f k a0 a1 a2) (node_Text.f (k + 1) a0 a1 a2) := by
 intro a0 a1 a2 k
 obtain ⟨ih0, ih1⟩ := node_Text.mono_l k
 unfold node_Text.f
 repeat' first
   | (with_reducible exact ih0 _ _ _ _)
   | (with_reducible exact ih1 _ _ _ _ _)
   | (with_reducible exact LeO.refl _)
   | (with_reducible exact LeO.none _)
   | (with_reducible refine LeO.ite ?_ ?_)
   | (with_reducible refine LeO.bind ?_ (fun _ => ?_))
   | exact ih0 _ _ _ _
   | exact ih1 _ _ _ _ _
   | exact LeO.none _
   | refine LeO.ite ?_ ?_
   | refine LeO.bind ?_ (fun _ => ?_)
set_option maxHeartbeats 8000000 in
set_option maxRecDepth 100000 in
theorem node_Text.calls (k : Nat) (a0_0 : Int) (a0_1 : Int) (a0_2 : ByteArray) (r : ByteArray) (w : World) (h : node_Text.f k a0_0 a0_1 a0_2 = some r) (hG : Glob w := by first | assumption | (refine Glob.below (by assumption) ?_; repeat (first | with_reducible exact (Aside0.out (by assumption)) | (refine below_set ?_ (Aside0.out (by assumption))) | (with_reducible first | apply below_alloc | apply pw_below_drewN | apply below_drew1) | exact (Aside0.out (by assumption))))) :
  Calls Tryd.prog 13 #[.agg #[.int .i64 a0_0, .int .i64 a0_1, .string a0_2]] w fun e w' => e = .returned (.string r) ∧ Below w.heap.size w w' := by
 have hu24 := Tryd.underlying24
 have HB := Aside0.mk (Below.refl w.heap.size w)
 have H : (if a0_0 < 1 then (node_Text.j0 k true a0_0 a0_1 a0_2) else (node_Text.j0 k (decide (a0_0 > 4)) a0_0 a0_1 a0_2)) = some r := h
 clear h
 have HC2 := Aside0.mk H
 clear H
 go_enter Tryd.func13, Tryd.ntmps13
 go_upto_region 1 with (first | ((with_reducible refine gate_dst (N := 1) rfl ?_); refine box_event ?hg (N := 1) ?hd (cs := #[.int .i64 a0_0, .int .i64 a0_1, .string a0_2]) (t := 24) ?hr ?_; (case hd => rfl); (case hg => rfl); (case hr => first | (go_simp; done) | (go_simp; rfl)); intro gb177 hg w3 hbox hb; have n0_ := Aside0.mk (below_step (by repeat (first | (with_reducible first | exact HB.out | apply below_alloc | apply pw_below_drewN | apply below_drew1) | exact HB.out)) hb); have n1_ := Aside0.mk (hbox); have n2_ := Aside0.mk ((by rw [hg]; exact (below_size (by repeat (first | (with_reducible first | exact HB.out | apply below_alloc | apply pw_below_drewN | apply below_drew1) | exact HB.out))) : w.heap.size ≤ gb177)); have n3_ := Aside0.mk ((by rw [hg]; exact (below_size (by repeat (first | (with_reducible first | exact HB.out | apply below_alloc | apply pw_below_drewN | apply below_drew1) | exact HB.out))) : w.heap.size ≤ gb177)); clear HB; have HB := n0_; have BK177 := n1_; have GW177 := n2_; have GE177 := n3_; clear n0_ n1_ n2_ n3_; clear hb hbox hg))
 (try simp only [Act.put, List.setIfInBounds_toArray, List.set_cons_zero, List.set_cons_succ])
 go_cut [11] (fun v11 wc => ∃ (kq : Nat) (x11_1 : Bool), v11 = .bool x11_1 ∧ Aside0 (node_Text.j0 kq x11_1 a0_0 a0_1 a0_2 = some r) ∧ Aside0 (kq ≤ k) ∧ Aside0 (wc.heap[gb177]? = some (.cells #[.int .i64 a0_0, .int .i64 a0_1, .string a0_2] 24 (0, 0))) ∧ Aside0 (Below w.heap.size w wc))
 case first =>
  have H := HC2.out
  clear HC2
  by_cases c4 : a0_0 < 1
  ·rw [if_pos c4] at H
   have c4b0 : decide (a0_0 < 1) = true := decide_eq_true c4
   clear c4
   (first | rw [c4b0] | rw [c4b1] | rw [c4b4] | (simp only [i64_w, i32_w]; rw [c4b0]) | skip)
   have H' := Aside0.mk H
   clear H
   have hcz5_0 : w3.cell? ⟨gb177, 0, none⟩ = some (.int .i64 a0_0) := (blk_cell BK177.out 0).trans rfl
   have hcz5_1 : w3.cell? ⟨gb177, 1, none⟩ = some (.int .i64 a0_1) := (blk_cell BK177.out 1).trans rfl
   have hcz5_2 : w3.cell? ⟨gb177, 2, none⟩ = some (.string a0_2) := (blk_cell BK177.out 2).trans rfl
   have hfz5_0 := blk_frozen BK177.out 0
   have hfz5_1 := blk_frozen BK177.out 1
   have hfz5_2 := blk_frozen BK177.out 2
   go_wp2
   go_meet
   case rel => exact ⟨_, (true), (by first | rfl | (simp; done) | (simp [*]; done)), H', ⟨by first | omega | exact Nat.le_refl _⟩, ⟨by (with_reducible repeat (first | refine blk_drewN ?_ _ | refine blk_drew ?_ | refine blk_alloc ?_ _)); exact BK177.out⟩, ⟨by repeat (first | (with_reducible first | exact HB.out | apply below_alloc | apply pw_below_drewN | apply below_drew1 | refine below_set ?_ GE177.out) | exact HB.out)⟩⟩
  ·rw [if_neg c4] at H
   have c4b0 : decide (a0_0 < 1) = false := decide_eq_false c4
   clear c4
   (first | rw [c4b0] | rw [c4b1] | rw [c4b4] | (simp only [i64_w, i32_w]; rw [c4b0]) | skip)
   have H' := Aside0.mk H
   clear H
   have hcz6_0 : w3.cell? ⟨gb177, 0, none⟩ = some (.int .i64 a0_0) := (blk_cell BK177.out 0).trans rfl
   have hcz6_1 : w3.cell? ⟨gb177, 1, none⟩ = some (.int .i64 a0_1) := (blk_cell BK177.out 1).trans rfl
   have hcz6_2 : w3.cell? ⟨gb177, 2, none⟩ = some (.string a0_2) := (blk_cell BK177.out 2).trans rfl
   have hfz6_0 := blk_frozen BK177.out 0
   have hfz6_1 := blk_frozen BK177.out 1
   have hfz6_2 := blk_frozen BK177.out 2
   go_wp2
   go_meet
   case rel => exact ⟨_, (decide (a0_0 > 4)), (by first | rfl | (simp; done) | (simp [*]; done)), H', ⟨by first | omega | exact Nat.le_refl _⟩, ⟨by (with_reducible repeat (first | refine blk_drewN ?_ _ | refine blk_drew ?_ | refine blk_alloc ?_ _)); exact BK177.out⟩, ⟨by repeat (first | (with_reducible first | exact HB.out | apply below_alloc | apply pw_below_drewN | apply below_drew1 | refine below_set ?_ GE177.out) | exact HB.out)⟩⟩
 case rest =>
  clear HC2
  try clear c1
  try clear p2
  try clear c4
  try clear c4b0
  try clear hcz5_0
  try clear hcz5_1
  try clear hcz5_2
  try clear hcz6_0
  try clear hcz6_1
  try clear hcz6_2
  try clear hfz5_0
  try clear hfz5_1
  try clear hfz5_2
  try clear hfz6_0
  try clear hfz6_1
  try clear hfz6_2
  obtain ⟨kq, x11_1, rfl, HA, HJ1, BK177, HB⟩ := hcut
  cases kq with
  | zero => exact absurd HA.out (by simp [node_Text.j0])
  | succ kj1 =>
   have H := HA.out
   clear HA
   simp only [node_Text.j0] at H
   by_cases c7 : x11_1 = true
   ·subst c7
    have H1 : (some (⟨#[]⟩ : ByteArray)) = some r := by rw [if_pos rfl] at H; exact H
    clear H
    have H := H1
    clear H1
    obtain rfl := Option.some.inj H
    go_wp2
    go_ret
    exact ⟨by first | rfl | (simp [errW_none, errW_some] <;> rfl) | (simp [*, errW_none, errW_some] <;> rfl), by repeat (first | (with_reducible first | exact HB.out | apply below_alloc | apply pw_below_drewN | apply below_drew1 | refine below_set ?_ GE177.out) | exact HB.out)⟩
   ·replace c7 := Bool.eq_false_iff.mpr c7
    subst c7
    have H1 : ((some (([(⟨#[]⟩ : ByteArray), (⟨#[115, 105, 116, 101]⟩ : ByteArray), (⟨#[111, 117, 116, 101, 114]⟩ : ByteArray), (⟨#[99, 97, 108, 108, 101, 101]⟩ : ByteArray), (⟨#[101, 118, 101, 114, 121]⟩ : ByteArray)] : List ByteArray) : List ByteArray)).bind fun y178 => (if 0 ≤ a0_0 then (if a0_0 < (y178.length : Int) then ((some (([rdOf ByteArray.empty y178 a0_0] : List ByteArray) : List ByteArray)).bind fun y182 => (if a0_0 = 1 then (node_Text.j1 kj1 y182 true a0_0 a0_1 a0_2) else (node_Text.j1 kj1 y182 (a0_0 == 3) a0_0 a0_1 a0_2))) else (none)) else (none))) = some r := by rw [if_neg (show ¬ (false = true) by decide)] at H; exact H
    clear H
    have H := H1
    clear H1
    obtain ⟨y178, hy178⟩ : ∃ y_ : List ByteArray, y_ = (([(⟨#[]⟩ : ByteArray), (⟨#[115, 105, 116, 101]⟩ : ByteArray), (⟨#[111, 117, 116, 101, 114]⟩ : ByteArray), (⟨#[99, 97, 108, 108, 101, 101]⟩ : ByteArray), (⟨#[101, 118, 101, 114, 121]⟩ : ByteArray)] : List ByteArray)) := ⟨_, rfl⟩
    replace H : (if 0 ≤ a0_0 then (if a0_0 < (y178.length : Int) then ((some (([rdOf ByteArray.empty y178 a0_0] : List ByteArray) : List ByteArray)).bind fun y182 => (if a0_0 = 1 then (node_Text.j1 kj1 y182 true a0_0 a0_1 a0_2) else (node_Text.j1 kj1 y182 (a0_0 == 3) a0_0 a0_1 a0_2))) else (none)) else (none)) = some r := by first | (rw [hy178]; with_reducible exact H) | (have H2_ := (Option.bind_some _ _).symm.trans H; rw [hy178]; with_reducible exact H2_) | (have H2_ := (Option.bind_some _ _).symm.trans H; with_reducible exact H2_) | with_reducible exact H | (rw [hy178]; exact H) | exact H
    have Ny178 := Aside0.mk hy178
    clear hy178
    by_cases c8 : 0 ≤ a0_0
    ·rw [if_pos c8] at H
     have c8b0 : decide (0 ≤ a0_0) = true := decide_eq_true c8
     clear c8
     by_cases c9 : a0_0 < (y178.length : Int)
     ·rw [if_pos c9] at H
      have c9b0 : decide (a0_0 < (y178.length : Int)) = true := decide_eq_true c9
      clear c9
      obtain ⟨y182, hy182⟩ : ∃ y_ : List ByteArray, y_ = (([rdOf ByteArray.empty y178 a0_0] : List ByteArray)) := ⟨_, rfl⟩
      replace H : (if a0_0 = 1 then (node_Text.j1 kj1 y182 true a0_0 a0_1 a0_2) else (node_Text.j1 kj1 y182 (a0_0 == 3) a0_0 a0_1 a0_2)) = some r := by first | (rw [hy182]; with_reducible exact H) | (have H2_ := (Option.bind_some _ _).symm.trans H; rw [hy182]; with_reducible exact H2_) | (have H2_ := (Option.bind_some _ _).symm.trans H; with_reducible exact H2_) | with_reducible exact H | (rw [hy182]; exact H) | exact H
      have Ny182 := Aside0.mk hy182
      clear hy182
      have HC10 := Aside0.mk H
      clear H
      go_upto_region 4 with (first | ((with_reducible refine gate_dst (N := 12) rfl ?_); refine Kd.R_lit Kd.string _ 9 ?hg (N := 12) ?hd (xs := ([(⟨#[]⟩ : ByteArray), (⟨#[115, 105, 116, 101]⟩ : ByteArray), (⟨#[111, 117, 116, 101, 114]⟩ : ByteArray), (⟨#[99, 97, 108, 108, 101, 101]⟩ : ByteArray), (⟨#[101, 118, 101, 114, 121]⟩ : ByteArray)] : List ByteArray)) (inner := [.string (⟨#[]⟩ : ByteArray), .string (⟨#[115, 105, 116, 101]⟩ : ByteArray), .string (⟨#[111, 117, 116, 101, 114]⟩ : ByteArray), .string (⟨#[99, 97, 108, 108, 101, 101]⟩ : ByteArray), .string (⟨#[101, 118, 101, 114, 121]⟩ : ByteArray)]) (ok := fun _ => True) (okp := fun _ => True) ?hr ?hp (fun _ hk => hk) trivial (Below.refl _ _) (Nat.le_refl _) (by simp) ?_; (case hd => rfl); (case hg => rfl); (case hr => first | (go_simp; done) | (go_simp; rfl)); (case hp => exact (Reps.one (show Kd.M Kd.string _ _ _ (⟨#[]⟩ : ByteArray) [.string (⟨#[]⟩ : ByteArray)] from rfl) (Reps.one (show Kd.M Kd.string _ _ _ (⟨#[115, 105, 116, 101]⟩ : ByteArray) [.string (⟨#[115, 105, 116, 101]⟩ : ByteArray)] from rfl) (Reps.one (show Kd.M Kd.string _ _ _ (⟨#[111, 117, 116, 101, 114]⟩ : ByteArray) [.string (⟨#[111, 117, 116, 101, 114]⟩ : ByteArray)] from rfl) (Reps.one (show Kd.M Kd.string _ _ _ (⟨#[99, 97, 108, 108, 101, 101]⟩ : ByteArray) [.string (⟨#[99, 97, 108, 108, 101, 101]⟩ : ByteArray)] from rfl) (Reps.one (show Kd.M Kd.string _ _ _ (⟨#[101, 118, 101, 114, 121]⟩ : ByteArray) [.string (⟨#[101, 118, 101, 114, 121]⟩ : ByteArray)] from rfl) (Reps.none _ _))))))); intro v179 w11 ho12 hb hg_ hnew_; clear hg_ hnew_; (first | rw [← Ny178.out] at ho12 | (simp only [Int.reduceToNat] at ho12; rw [← Ny178.out] at ho12)); have n0_ := Aside0.mk (Kd.R_lower ho12 (below_size (by repeat (first | (with_reducible first | exact HB.out | apply below_alloc | apply pw_below_drewN | apply below_drew1 | refine below_set ?_ GE177.out) | exact HB.out)))); have n1_ := Aside0.mk (blk_below (g := gb177) (o := .cells #[.int .i64 a0_0, .int .i64 a0_1, .string a0_2] 24 (0, 0)) (by (with_reducible repeat (first | refine blk_drewN ?_ _ | refine blk_drew ?_ | refine blk_alloc ?_ _)); exact BK177.out) hb); have n2_ := Aside0.mk (below_step (by repeat (first | (with_reducible first | exact HB.out | apply below_alloc | apply pw_below_drewN | apply below_drew1 | refine below_set ?_ GE177.out) | exact HB.out)) hb); clear BK177; clear HB; have HO180 := n0_; have BK177 := n1_; have HB := n2_; clear n0_ n1_ n2_; clear hb ho12; have hcz13_0 : w11.cell? ⟨gb177, 0, none⟩ = some (.int .i64 a0_0) := (blk_cell BK177.out 0).trans rfl; have hcz13_1 : w11.cell? ⟨gb177, 1, none⟩ = some (.int .i64 a0_1) := (blk_cell BK177.out 1).trans rfl; have hcz13_2 : w11.cell? ⟨gb177, 2, none⟩ = some (.string a0_2) := (blk_cell BK177.out 2).trans rfl; have hfz13_0 := blk_frozen BK177.out 0; have hfz13_1 := blk_frozen BK177.out 1; have hfz13_2 := blk_frozen BK177.out 2; obtain ⟨Ao14, co14, eo14⟩ := Kd.R_slice HO180.out; subst eo14; have p181 : 0 ≤ (a0_0 : Int) := of_decide_eq_true (by first | (with_reducible assumption) | assumption); have q181 : a0_0 < (y178.length : Int) := of_decide_eq_true (by first | (with_reducible assumption) | assumption); obtain ⟨ad181, e181, hx181_0⟩ := Kd.at_string (Kd.R_reads' HO180.out).2.2 a0_0 p181 q181; cases e181; replace p181 := eq_true p181; replace q181 := eq_true q181) | ((with_reducible refine gate_dst (N := 17) rfl ?_); refine Kd.R_lit Kd.string _ 9 ?hg (N := 17) ?hd (xs := ([rdOf ByteArray.empty y178 a0_0] : List ByteArray)) (inner := [.string (rdOf ByteArray.empty y178 a0_0)]) (ok := fun _ => True) (okp := fun _ => True) ?hr ?hp (fun _ hk => hk) trivial (Below.refl _ _) (Nat.le_refl _) (by simp) ?_; (case hd => rfl); (case hg => rfl); (case hr => first | (go_simp; done) | (go_simp; rfl)); (case hp => exact (Reps.one (show Kd.M Kd.string _ _ _ (rdOf ByteArray.empty y178 a0_0) [.string (rdOf ByteArray.empty y178 a0_0)] from rfl) (Reps.none _ _))); intro v183 w15 ho16 hb hg_ hnew_; clear hg_ hnew_; (first | rw [← Ny182.out] at ho16 | (simp only [Int.reduceToNat] at ho16; rw [← Ny182.out] at ho16)); have n0_ := Aside0.mk (Kd.R_elder' (by (with_reducible repeat (first | apply Kd.R_alloc | apply Kd.R_drewN | apply Kd.R_drew)); exact HO180.out) (Kd.R_base ho16) hb); have n1_ := Aside0.mk (Kd.R_lower (Kd.R_new' ho16 (Kd.R_lt (by (with_reducible repeat (first | apply Kd.R_alloc | apply Kd.R_drewN | apply Kd.R_drew)); exact HO180.out))) (below_size (by repeat (first | (with_reducible first | exact HB.out | apply below_alloc | apply pw_below_drewN | apply below_drew1 | refine below_set ?_ GE177.out) | exact HB.out)))); have n2_ := Aside0.mk (blk_below (g := gb177) (o := .cells #[.int .i64 a0_0, .int .i64 a0_1, .string a0_2] 24 (0, 0)) (by (with_reducible repeat (first | refine blk_drewN ?_ _ | refine blk_drew ?_ | refine blk_alloc ?_ _)); exact BK177.out) hb); have n3_ := Aside0.mk (below_step (by repeat (first | (with_reducible first | exact HB.out | apply below_alloc | apply pw_below_drewN | apply below_drew1 | refine below_set ?_ GE177.out) | exact HB.out)) hb); clear HO180; clear BK177; clear HB; have HO180 := n0_; have HO184 := n1_; have BK177 := n2_; have HB := n3_; clear n0_ n1_ n2_ n3_; clear hb ho16))
      (try simp only [Act.put, List.setIfInBounds_toArray, List.set_cons_zero, List.set_cons_succ])
      go_cut [25] (fun v25 wc => ∃ (kq : Nat) (x25_9 : Bool), v25 = .bool x25_9 ∧ Aside0 (node_Text.j1 kq y182 x25_9 a0_0 a0_1 a0_2 = some r) ∧ Aside0 (kq ≤ kj1) ∧ Aside0 (Kd.R Kd.string 9 wc w.heap.size (fun _ => True) v183 y182) ∧ Aside0 (wc.heap[gb177]? = some (.cells #[.int .i64 a0_0, .int .i64 a0_1, .string a0_2] 24 (0, 0))) ∧ Aside0 (Below w.heap.size w wc))
      case first =>
       have H := HC10.out
       clear HC10
       by_cases c17 : a0_0 = 1
       ·rw [if_pos c17] at H
        have c17b0 : (a0_0 == 1) = true := beq_iff_eq.mpr c17
        have c17b1 : (a0_0 != 1) = false := bne_eq_false_iff_eq.mpr c17
        clear c17
        (first | rw [c17b0] | rw [c17b1] | rw [c17b4] | (simp only [i64_w, i32_w]; rw [c17b0]) | skip)
        have H' := Aside0.mk H
        clear H
        have hcz18_0 : w15.cell? ⟨gb177, 0, none⟩ = some (.int .i64 a0_0) := (blk_cell BK177.out 0).trans rfl
        have hcz18_1 : w15.cell? ⟨gb177, 1, none⟩ = some (.int .i64 a0_1) := (blk_cell BK177.out 1).trans rfl
        have hcz18_2 : w15.cell? ⟨gb177, 2, none⟩ = some (.string a0_2) := (blk_cell BK177.out 2).trans rfl
        have hfz18_0 := blk_frozen BK177.out 0
        have hfz18_1 := blk_frozen BK177.out 1
        have hfz18_2 := blk_frozen BK177.out 2
        go_wp2
        go_meet
        case rel => exact ⟨_, (true), (by first | rfl | (simp; done) | (simp [*]; done)), H', ⟨by have := HJ1.out; first | omega | exact Nat.le_refl _⟩, ⟨by (with_reducible repeat (first | apply Kd.R_alloc | apply Kd.R_drewN | apply Kd.R_drew)); exact Kd.R_mono HO184.out (fun _ hk => trivial)⟩, ⟨by (with_reducible repeat (first | refine blk_drewN ?_ _ | refine blk_drew ?_ | refine blk_alloc ?_ _)); exact BK177.out⟩, ⟨by repeat (first | (with_reducible first | exact HB.out | apply below_alloc | apply pw_below_drewN | apply below_drew1 | refine below_set ?_ GE177.out) | exact HB.out)⟩⟩
       ·rw [if_neg c17] at H
        have c17b0 : (a0_0 == 1) = false := beq_eq_false_iff_ne.mpr c17
        have c17b1 : (a0_0 != 1) = true := bne_iff_ne.mpr c17
        (first | rw [c17b0] | rw [c17b1] | rw [c17b4] | (simp only [i64_w, i32_w]; rw [c17b0]) | skip)
        have H' := Aside0.mk H
        clear H
        have hcz19_0 : w15.cell? ⟨gb177, 0, none⟩ = some (.int .i64 a0_0) := (blk_cell BK177.out 0).trans rfl
        have hcz19_1 : w15.cell? ⟨gb177, 1, none⟩ = some (.int .i64 a0_1) := (blk_cell BK177.out 1).trans rfl
        have hcz19_2 : w15.cell? ⟨gb177, 2, none⟩ = some (.string a0_2) := (blk_cell BK177.out 2).trans rfl
        have hfz19_0 := blk_frozen BK177.out 0
        have hfz19_1 := blk_frozen BK177.out 1
        have hfz19_2 := blk_frozen BK177.out 2
        go_wp2
        go_meet
        case rel => exact ⟨_, ((a0_0 == 3)), (by first | rfl | (simp; done) | (simp [*]; done)), H', ⟨by have := HJ1.out; first | omega | exact Nat.le_refl _⟩, ⟨by (with_reducible repeat (first | apply Kd.R_alloc | apply Kd.R_drewN | apply Kd.R_drew)); exact Kd.R_mono HO184.out (fun _ hk => trivial)⟩, ⟨by (with_reducible repeat (first | refine blk_drewN ?_ _ | refine blk_drew ?_ | refine blk_alloc ?_ _)); exact BK177.out⟩, ⟨by repeat (first | (with_reducible first | exact HB.out | apply below_alloc | apply pw_below_drewN | apply below_drew1 | refine below_set ?_ GE177.out) | exact HB.out)⟩⟩
      case rest =>
       clear HC10
       try clear c1
       try clear p1
       try clear q1
       try clear hx1
       try clear p2
       try clear c4
       try clear c4b0
       try clear c7
       try clear c8
       try clear c8b0
       try clear c9
       try clear c9b0
       try clear c13
       try clear c17
       try clear c17b0
       try clear c17b1
       try clear p18
       try clear q18
       try clear hx18
       try clear hcz13_0
       try clear hcz13_1
       try clear hcz13_2
       try clear hcz18_0
       try clear hcz18_1
       try clear hcz18_2
       try clear hcz19_0
       try clear hcz19_1
       try clear hcz19_2
       try clear hcz5_0
       try clear hcz5_1
       try clear hcz5_2
       try clear hcz6_0
       try clear hcz6_1
       try clear hcz6_2
       try clear hfz13_0
       try clear hfz13_1
       try clear hfz13_2
       try clear hfz18_0
       try clear hfz18_1
       try clear hfz18_2
       try clear hfz19_0
       try clear hfz19_1
       try clear hfz19_2
       try clear hfz5_0
       try clear hfz5_1
       try clear hfz5_2
       try clear hfz6_0
       try clear hfz6_1
       try clear hfz6_2
       try clear hx181_0
       try clear p181
       try clear p2
       try clear q181
       obtain ⟨kq, x25_9, rfl, HA, HJ9, HO_3, BK177, HB⟩ := hcut
       cases kq with
       | zero => exact absurd HA.out (by simp [node_Text.j1])
       | succ kj9 =>
        have H := HA.out
        clear HA
        simp only [node_Text.j1] at H
        by_cases c20 : x25_9 = true
        ·subst c20
         have H1 : ((strconv_Itoa_36.f a0_1).bind fun t185 => (if y182.length < 8796093022208 then ((some (y182 ++ [t185] : List ByteArray)).bind fun y186 => (if y186.length < 8796093022208 then ((strings_Join.f (y186 ++ [a0_2]) (⟨#[32]⟩ : ByteArray)).bind fun t192 => (some t192)) else (none))) else (none))) = some r := by rw [if_pos rfl] at H; exact H
         clear H
         have H := H1
         clear H1
         replace H := Option.bind_eq_some_iff.mp H
         obtain ⟨t185, A210, H⟩ := H
         replace H : (if y182.length < 8796093022208 then ((some (y182 ++ [t185] : List ByteArray)).bind fun y186 => (if y186.length < 8796093022208 then ((strings_Join.f (y186 ++ [a0_2]) (⟨#[32]⟩ : ByteArray)).bind fun t192 => (some t192)) else (none))) else (none)) = some r := H
         have A21 := Aside0.mk A210
         clear A210
         by_cases c22 : y182.length < 8796093022208
         ·rw [if_pos c22] at H
          have LMc22 := Aside0.mk c22
          clear c22
          obtain ⟨y186, hy186⟩ : ∃ y_ : List ByteArray, y_ = (y182 ++ [t185]) := ⟨_, rfl⟩
          replace H : (if y186.length < 8796093022208 then ((strings_Join.f (y186 ++ [a0_2]) (⟨#[32]⟩ : ByteArray)).bind fun t192 => (some t192)) else (none)) = some r := by first | (rw [hy186]; with_reducible exact H) | (have H2_ := (Option.bind_some _ _).symm.trans H; rw [hy186]; with_reducible exact H2_) | (have H2_ := (Option.bind_some _ _).symm.trans H; with_reducible exact H2_) | with_reducible exact H | (rw [hy186]; exact H) | exact H
          have Ny186 := Aside0.mk hy186
          clear hy186
          by_cases c23 : y186.length < 8796093022208
          ·rw [if_pos c23] at H
           have LMc23 := Aside0.mk c23
           clear c23
           obtain ⟨y189, hy189⟩ : ∃ y_ : List ByteArray, y_ = (y186 ++ [a0_2]) := ⟨_, rfl⟩
           replace H : ((strings_Join.f y189 (⟨#[32]⟩ : ByteArray)).bind fun t192 => (some t192)) = some r := by first | (rw [hy189]; with_reducible exact H) | (have H2_ := (Option.bind_some _ _).symm.trans H; rw [hy189]; with_reducible exact H2_) | (have H2_ := (Option.bind_some _ _).symm.trans H; with_reducible exact H2_) | with_reducible exact H | (rw [hy189]; exact H) | exact H
           have Ny189 := Aside0.mk hy189
           clear hy189
           replace H := Option.bind_eq_some_iff.mp H
           obtain ⟨t192, A240, H⟩ := H
           replace H : (some t192) = some r := H
           have A24 := Aside0.mk A240
           clear A240
           obtain rfl := Option.some.inj H
           have hcz25_0 : wc.cell? ⟨gb177, 0, none⟩ = some (.int .i64 a0_0) := (blk_cell BK177.out 0).trans rfl
           have hcz25_1 : wc.cell? ⟨gb177, 1, none⟩ = some (.int .i64 a0_1) := (blk_cell BK177.out 1).trans rfl
           have hcz25_2 : wc.cell? ⟨gb177, 2, none⟩ = some (.string a0_2) := (blk_cell BK177.out 2).trans rfl
           have hfz25_0 := blk_frozen BK177.out 0
           have hfz25_1 := blk_frozen BK177.out 1
           have hfz25_2 := blk_frozen BK177.out 2
           go_wp2_with (first | ((with_reducible refine gate_callee (f := 36) rfl ?_); refine goesL_ (some 29) rfl rfl Tryd.func36 (by kernel_rfl) rfl #[.int .i64 a0_1] rfl (by (try simp only [List.map_toArray, List.map_cons, List.map_nil]); first | done | rfl | (simp only [List.length_drop, List.length_take]; rfl)) ?_; (with_reducible refine (strconv_Itoa_36.calls a0_1 t185 _ A21.out).mono ?_); rintro e w26 ⟨rfl, hb⟩; refine ⟨_, rfl, ?_⟩; have n0_ := Aside0.mk (Kd.R_below (by (with_reducible repeat (first | apply Kd.R_alloc | apply Kd.R_drewN | apply Kd.R_drew)); exact HO_3.out) hb); have n1_ := Aside0.mk (blk_below (g := gb177) (o := .cells #[.int .i64 a0_0, .int .i64 a0_1, .string a0_2] 24 (0, 0)) (by (with_reducible repeat (first | refine blk_drewN ?_ _ | refine blk_drew ?_ | refine blk_alloc ?_ _)); exact BK177.out) hb); have n2_ := Aside0.mk (below_step (by repeat (first | (with_reducible first | exact HB.out | apply below_alloc | apply pw_below_drewN | apply below_drew1 | refine below_set ?_ GE177.out) | exact HB.out)) hb); clear HO_3; clear BK177; clear HB; have HO_3 := n0_; have BK177 := n1_; have HB := n2_; clear n0_ n1_ n2_; (try clear hb); (try clear hb2); (try clear hk); (try clear hi)) | ((with_reducible refine gate_builtin (b := .append) (xs := #[.tmp 26, .tmp 30]) rfl ?_); at_builtin; refine Kd.R_append Kd.string (w0 := w) w.heap.size rfl (.tmp 26) (.tmp 30) 76 9 (.string ⟨#[]⟩) 16 rfl Tryd.underlying76 info9 rfl (by decide) (by omega) v183 y182 t185 [.string t185] (fun _ => True) (fun _ => False) rfl rfl ?aP (fun _ hk => hk.elim) ?aF ?aO ?aB ?aS ?aL ?_; (case aP => exact rfl); (case aB => exact (by repeat (first | (with_reducible first | exact HB.out | apply below_alloc | apply pw_below_drewN | apply below_drew1 | refine below_set ?_ GE177.out) | exact HB.out))); (case aF => exact (fun _ _ => trivial)); (case aO => exact (by (with_reducible repeat (first | apply Kd.R_alloc | apply Kd.R_drewN | apply Kd.R_drew)); exact HO_3.out)); (case aS => exact (below_size (by repeat (first | (with_reducible first | exact HB.out | apply below_alloc | apply pw_below_drewN | apply below_drew1 | refine below_set ?_ GE177.out) | exact HB.out)))); (case aL => have := LMc22.out; omega); intro v187 w27 ho hb hg hat; rw [← Ny186.out] at ho; have n0_ := Aside0.mk (blk_grown (g := gb177) (o := .cells #[.int .i64 a0_0, .int .i64 a0_1, .string a0_2] 24 (0, 0)) (by (with_reducible repeat (first | refine blk_drewN ?_ _ | refine blk_drew ?_ | refine blk_alloc ?_ _)); exact BK177.out) hg (Kd.R_ne HO_3.out BK177.out (by decide))); have n1_ := Aside0.mk (hb); have n2_ := Aside0.mk (ho); clear BK177; clear HB; clear HO_3; have BK177 := n0_; have HB := n1_; have HO188 := n2_; clear n0_ n1_ n2_; clear ho hb hg hat; have hcz28_0 : w27.cell? ⟨gb177, 0, none⟩ = some (.int .i64 a0_0) := (blk_cell BK177.out 0).trans rfl; have hcz28_1 : w27.cell? ⟨gb177, 1, none⟩ = some (.int .i64 a0_1) := (blk_cell BK177.out 1).trans rfl; have hcz28_2 : w27.cell? ⟨gb177, 2, none⟩ = some (.string a0_2) := (blk_cell BK177.out 2).trans rfl; have hfz28_0 := blk_frozen BK177.out 0; have hfz28_1 := blk_frozen BK177.out 1; have hfz28_2 := blk_frozen BK177.out 2) | ((with_reducible refine gate_builtin (b := .append) (xs := #[.tmp 32, .tmp 35]) rfl ?_); at_builtin; refine Kd.R_append Kd.string (w0 := w) w.heap.size rfl (.tmp 32) (.tmp 35) 76 9 (.string ⟨#[]⟩) 16 rfl Tryd.underlying76 info9 rfl (by decide) (by omega) v187 y186 a0_2 [.string a0_2] (fun _ => True) (fun _ => False) rfl rfl ?aP (fun _ hk => hk.elim) ?aF ?aO ?aB ?aS ?aL ?_; (case aP => exact rfl); (case aB => exact (by repeat (first | (with_reducible first | exact HB.out | apply below_alloc | apply pw_below_drewN | apply below_drew1 | refine below_set ?_ GE177.out) | exact HB.out))); (case aF => exact (fun _ _ => trivial)); (case aO => exact (by (with_reducible repeat (first | apply Kd.R_alloc | apply Kd.R_drewN | apply Kd.R_drew)); exact HO188.out)); (case aS => exact (below_size (by repeat (first | (with_reducible first | exact HB.out | apply below_alloc | apply pw_below_drewN | apply below_drew1 | refine below_set ?_ GE177.out) | exact HB.out)))); (case aL => have := LMc23.out; omega); intro v190 w29 ho hb hg hat; rw [← Ny189.out] at ho; have n0_ := Aside0.mk (blk_grown (g := gb177) (o := .cells #[.int .i64 a0_0, .int .i64 a0_1, .string a0_2] 24 (0, 0)) (by (with_reducible repeat (first | refine blk_drewN ?_ _ | refine blk_drew ?_ | refine blk_alloc ?_ _)); exact BK177.out) hg (Kd.R_ne HO188.out BK177.out (by decide))); have n1_ := Aside0.mk (hb); have n2_ := Aside0.mk (ho); clear BK177; clear HB; clear HO188; have BK177 := n0_; have HB := n1_; have HO191 := n2_; clear n0_ n1_ n2_; clear ho hb hg hat; obtain ⟨Ao30, co30, eo30⟩ := Kd.R_slice HO191.out; subst eo30) | ((with_reducible refine gate_callee (f := 37) rfl ?_); refine goesL_ (some 37) rfl rfl Tryd.func37 (by kernel_rfl) rfl #[.slice Ao30 y189.length co30, .string (⟨#[32]⟩ : ByteArray)] rfl (by (try simp only [List.map_toArray, List.map_cons, List.map_nil]); first | done | rfl | (simp only [List.length_drop, List.length_take]; rfl)) ?_; (with_reducible refine (strings_Join.calls _ _ y189 (⟨#[32]⟩ : ByteArray) t192 _ ?side1 ?side2 A24.out).mono ?_); (case side1 => repeat (first | exact (Kd.R_reads' HO191.out).2.2 | (with_reducible refine Kd.C_alloc ?_ _) | (with_reducible refine Kd.C_drewN ?_ _) | (with_reducible refine Kd.C_drew ?_))); (case side2 => exact (Kd.R_reads' HO191.out).2.1); rintro e w31 ⟨rfl, hb⟩; refine ⟨_, rfl, ?_⟩; have n0_ := Aside0.mk (Kd.R_below (by (with_reducible repeat (first | apply Kd.R_alloc | apply Kd.R_drewN | apply Kd.R_drew)); exact HO191.out) hb); have n1_ := Aside0.mk (blk_below (g := gb177) (o := .cells #[.int .i64 a0_0, .int .i64 a0_1, .string a0_2] 24 (0, 0)) (by (with_reducible repeat (first | refine blk_drewN ?_ _ | refine blk_drew ?_ | refine blk_alloc ?_ _)); exact BK177.out) hb); have n2_ := Aside0.mk (below_step (by repeat (first | (with_reducible first | exact HB.out | apply below_alloc | apply pw_below_drewN | apply below_drew1 | refine below_set ?_ GE177.out) | exact HB.out)) hb); clear HO191; clear BK177; clear HB; have HO191 := n0_; have BK177 := n1_; have HB := n2_; clear n0_ n1_ n2_; (try clear hb); (try clear hb2); (try clear hk); (try clear hi)))
           go_ret
           exact ⟨by first | rfl | (simp [errW_none, errW_some] <;> rfl) | (simp [*, errW_none, errW_some] <;> rfl), by repeat (first | (with_reducible first | exact HB.out | apply below_alloc | apply pw_below_drewN | apply below_drew1 | refine below_set ?_ GE177.out) | exact HB.out)⟩
          ·rw [if_neg c23] at H
           exact absurd H (by simp)
         ·rw [if_neg c22] at H
          exact absurd H (by simp)
        ·replace c20 := Bool.eq_false_iff.mpr c20
         subst c20
         have H1 : (if y182.length < 8796093022208 then ((strings_Join.f (y182 ++ [a0_2]) (⟨#[32]⟩ : ByteArray)).bind fun t196 => (some t196)) else (none)) = some r := by rw [if_neg (show ¬ (false = true) by decide)] at H; exact H
         clear H
         have H := H1
         clear H1
         by_cases c32 : y182.length < 8796093022208
         ·rw [if_pos c32] at H
          have LMc32 := Aside0.mk c32
          clear c32
          obtain ⟨y193, hy193⟩ : ∃ y_ : List ByteArray, y_ = (y182 ++ [a0_2]) := ⟨_, rfl⟩
          replace H : ((strings_Join.f y193 (⟨#[32]⟩ : ByteArray)).bind fun t196 => (some t196)) = some r := by first | (rw [hy193]; with_reducible exact H) | (have H2_ := (Option.bind_some _ _).symm.trans H; rw [hy193]; with_reducible exact H2_) | (have H2_ := (Option.bind_some _ _).symm.trans H; with_reducible exact H2_) | with_reducible exact H | (rw [hy193]; exact H) | exact H
          have Ny193 := Aside0.mk hy193
          clear hy193
          replace H := Option.bind_eq_some_iff.mp H
          obtain ⟨t196, A330, H⟩ := H
          replace H : (some t196) = some r := H
          have A33 := Aside0.mk A330
          clear A330
          obtain rfl := Option.some.inj H
          have hcz34_0 : wc.cell? ⟨gb177, 0, none⟩ = some (.int .i64 a0_0) := (blk_cell BK177.out 0).trans rfl
          have hcz34_1 : wc.cell? ⟨gb177, 1, none⟩ = some (.int .i64 a0_1) := (blk_cell BK177.out 1).trans rfl
          have hcz34_2 : wc.cell? ⟨gb177, 2, none⟩ = some (.string a0_2) := (blk_cell BK177.out 2).trans rfl
          have hfz34_0 := blk_frozen BK177.out 0
          have hfz34_1 := blk_frozen BK177.out 1
          have hfz34_2 := blk_frozen BK177.out 2
          go_wp2_with (first | ((with_reducible refine gate_builtin (b := .append) (xs := #[.tmp 32, .tmp 35]) rfl ?_); at_builtin; refine Kd.R_append Kd.string (w0 := w) w.heap.size rfl (.tmp 32) (.tmp 35) 76 9 (.string ⟨#[]⟩) 16 rfl Tryd.underlying76 info9 rfl (by decide) (by omega) v183 y182 a0_2 [.string a0_2] (fun _ => True) (fun _ => False) rfl rfl ?aP (fun _ hk => hk.elim) ?aF ?aO ?aB ?aS ?aL ?_; (case aP => exact rfl); (case aB => exact (by repeat (first | (with_reducible first | exact HB.out | apply below_alloc | apply pw_below_drewN | apply below_drew1 | refine below_set ?_ GE177.out) | exact HB.out))); (case aF => exact (fun _ _ => trivial)); (case aO => exact (by (with_reducible repeat (first | apply Kd.R_alloc | apply Kd.R_drewN | apply Kd.R_drew)); exact HO_3.out)); (case aS => exact (below_size (by repeat (first | (with_reducible first | exact HB.out | apply below_alloc | apply pw_below_drewN | apply below_drew1 | refine below_set ?_ GE177.out) | exact HB.out)))); (case aL => have := LMc32.out; omega); intro v194 w35 ho hb hg hat; rw [← Ny193.out] at ho; have n0_ := Aside0.mk (blk_grown (g := gb177) (o := .cells #[.int .i64 a0_0, .int .i64 a0_1, .string a0_2] 24 (0, 0)) (by (with_reducible repeat (first | refine blk_drewN ?_ _ | refine blk_drew ?_ | refine blk_alloc ?_ _)); exact BK177.out) hg (Kd.R_ne HO_3.out BK177.out (by decide))); have n1_ := Aside0.mk (hb); have n2_ := Aside0.mk (ho); clear BK177; clear HB; clear HO_3; have BK177 := n0_; have HB := n1_; have HO195 := n2_; clear n0_ n1_ n2_; clear ho hb hg hat; obtain ⟨Ao36, co36, eo36⟩ := Kd.R_slice HO195.out; subst eo36) | ((with_reducible refine gate_callee (f := 37) rfl ?_); refine goesL_ (some 37) rfl rfl Tryd.func37 (by kernel_rfl) rfl #[.slice Ao36 y193.length co36, .string (⟨#[32]⟩ : ByteArray)] rfl (by (try simp only [List.map_toArray, List.map_cons, List.map_nil]); first | done | rfl | (simp only [List.length_drop, List.length_take]; rfl)) ?_; (with_reducible refine (strings_Join.calls _ _ y193 (⟨#[32]⟩ : ByteArray) t196 _ ?side1 ?side2 A33.out).mono ?_); (case side1 => repeat (first | exact (Kd.R_reads' HO195.out).2.2 | (with_reducible refine Kd.C_alloc ?_ _) | (with_reducible refine Kd.C_drewN ?_ _) | (with_reducible refine Kd.C_drew ?_))); (case side2 => exact (Kd.R_reads' HO195.out).2.1); rintro e w37 ⟨rfl, hb⟩; refine ⟨_, rfl, ?_⟩; have n0_ := Aside0.mk (Kd.R_below (by (with_reducible repeat (first | apply Kd.R_alloc | apply Kd.R_drewN | apply Kd.R_drew)); exact HO195.out) hb); have n1_ := Aside0.mk (blk_below (g := gb177) (o := .cells #[.int .i64 a0_0, .int .i64 a0_1, .string a0_2] 24 (0, 0)) (by (with_reducible repeat (first | refine blk_drewN ?_ _ | refine blk_drew ?_ | refine blk_alloc ?_ _)); exact BK177.out) hb); have n2_ := Aside0.mk (below_step (by repeat (first | (with_reducible first | exact HB.out | apply below_alloc | apply pw_below_drewN | apply below_drew1 | refine below_set ?_ GE177.out) | exact HB.out)) hb); clear HO195; clear BK177; clear HB; have HO195 := n0_; have BK177 := n1_; have HB := n2_; clear n0_ n1_ n2_; (try clear hb); (try clear hb2); (try clear hk); (try clear hi)))
          go_ret
          exact ⟨by first | rfl | (simp [errW_none, errW_some] <;> rfl) | (simp [*, errW_none, errW_some] <;> rfl), by repeat (first | (with_reducible first | exact HB.out | apply below_alloc | apply pw_below_drewN | apply below_drew1 | refine below_set ?_ GE177.out) | exact HB.out)⟩
         ·rw [if_neg c32] at H
          exact absurd H (by simp)
     ·rw [if_neg c9] at H
      exact absurd H (by simp)
    ·rw [if_neg c8] at H
     exact absurd H (by simp)
/-! ### truantref18_Less: function 8 -/
def truantref18_Less.f (a0_0 : Int) (a0_1 : Int) (a0_2 : ByteArray) (a1_0 : Int) (a1_1 : Int) (a1_2 : ByteArray) : Option (Bool) := if a0_0 = a1_0 then (if a0_1 = a1_1 then (some (Op.bytesLess a0_2.toList a1_2.toList)) else (some (decide (a0_1 < a1_1)))) else (some (decide (a0_0 < a1_0)))
set_option maxHeartbeats 8000000 in
set_option maxRecDepth 100000 in
theorem truantref18_Less.calls (a0_0 : Int) (a0_1 : Int) (a0_2 : ByteArray) (a1_0 : Int) (a1_1 : Int) (a1_2 : ByteArray) (r : Bool) (w : World) (h : truantref18_Less.f a0_0 a0_1 a0_2 a1_0 a1_1 a1_2 = some r) :
  Calls Tryd.prog 8 #[.agg #[.int .i64 a0_0, .int .i64 a0_1, .string a0_2], .agg #[.int .i64 a1_0, .int .i64 a1_1, .string a1_2]] w fun e w' => e = .returned (.bool r) ∧ Below w.heap.size w w' := by
 have hu30 := Tryd.underlying30
 have HB := Aside0.mk (Below.refl w.heap.size w)
 have H : (if a0_0 = a1_0 then (if a0_1 = a1_1 then (some (Op.bytesLess a0_2.toList a1_2.toList)) else (some (decide (a0_1 < a1_1)))) else (some (decide (a0_0 < a1_0)))) = some r := h
 clear h
 by_cases c3 : a0_0 = a1_0
 ·rw [if_pos c3] at H
  have c3b0 : (a0_0 == a1_0) = true := beq_iff_eq.mpr c3
  have c3b1 : (a0_0 != a1_0) = false := bne_eq_false_iff_eq.mpr c3
  clear c3
  by_cases c4 : a0_1 = a1_1
  ·rw [if_pos c4] at H
   have c4b0 : (a0_1 == a1_1) = true := beq_iff_eq.mpr c4
   have c4b1 : (a0_1 != a1_1) = false := bne_eq_false_iff_eq.mpr c4
   clear c4
   obtain rfl := Option.some.inj H
   go_enter Tryd.func8, Tryd.ntmps8
   go_wp2_with (first | ((with_reducible refine gate_dst (N := 2) rfl ?_); refine box_event ?hg (N := 2) ?hd (cs := #[.int .i64 a0_0, .int .i64 a0_1, .string a0_2]) (t := 30) ?hr ?_; (case hd => rfl); (case hg => rfl); (case hr => first | (go_simp; done) | (go_simp; rfl)); intro gb199 hg w5 hbox hb; have n0_ := Aside0.mk (below_step (by repeat (first | (with_reducible first | exact HB.out | apply below_alloc | apply pw_below_drewN | apply below_drew1) | exact HB.out)) hb); have n1_ := Aside0.mk (hbox); have n2_ := Aside0.mk ((by rw [hg]; exact (below_size (by repeat (first | (with_reducible first | exact HB.out | apply below_alloc | apply pw_below_drewN | apply below_drew1) | exact HB.out))) : w.heap.size ≤ gb199)); have n3_ := Aside0.mk ((by rw [hg]; exact (below_size (by repeat (first | (with_reducible first | exact HB.out | apply below_alloc | apply pw_below_drewN | apply below_drew1) | exact HB.out))) : w.heap.size ≤ gb199)); clear HB; have HB := n0_; have BK199 := n1_; have GW199 := n2_; have GE199 := n3_; clear n0_ n1_ n2_ n3_; clear hb hbox hg) | ((with_reducible refine gate_dst (N := 3) rfl ?_); refine box_event ?hg (N := 3) ?hd (cs := #[.int .i64 a1_0, .int .i64 a1_1, .string a1_2]) (t := 30) ?hr ?_; (case hd => rfl); (case hg => rfl); (case hr => first | (go_simp; done) | (go_simp; rfl)); intro gb200 hg w6 hbox hb; have n0_ := Aside0.mk (blk_below (g := gb199) (o := .cells #[.int .i64 a0_0, .int .i64 a0_1, .string a0_2] 30 (0, 0)) (by (with_reducible repeat (first | refine blk_drewN ?_ _ | refine blk_drew ?_ | refine blk_alloc ?_ _)); exact BK199.out) hb); have n1_ := Aside0.mk (below_step (by repeat (first | (with_reducible first | exact HB.out | apply below_alloc | apply pw_below_drewN | apply below_drew1 | refine below_set ?_ GE199.out) | exact HB.out)) hb); have n2_ := Aside0.mk (hbox); have n3_ := Aside0.mk ((by rw [hg]; exact (below_size (by repeat (first | (with_reducible first | exact HB.out | apply below_alloc | apply pw_below_drewN | apply below_drew1 | refine below_set ?_ GE199.out) | exact HB.out))) : w.heap.size ≤ gb200)); have n4_ := Aside0.mk ((by rw [hg]; exact (below_size (by repeat (first | (with_reducible first | exact HB.out | apply below_alloc | apply pw_below_drewN | apply below_drew1 | refine below_set ?_ GE199.out) | exact HB.out))) : w.heap.size ≤ gb200)); have n5_ := Aside0.mk ((by rw [hg]; exact Nat.ne_of_lt (blk_lt (g := gb199) (o := .cells #[.int .i64 a0_0, .int .i64 a0_1, .string a0_2] 30 (0, 0)) (by (with_reducible repeat (first | refine blk_drewN ?_ _ | refine blk_drew ?_ | refine blk_alloc ?_ _)); exact BK199.out)) : gb199 ≠ gb200)); have n6_ := Aside0.mk ((by rw [hg]; exact Nat.ne_of_gt (blk_lt (g := gb199) (o := .cells #[.int .i64 a0_0, .int .i64 a0_1, .string a0_2] 30 (0, 0)) (by (with_reducible repeat (first | refine blk_drewN ?_ _ | refine blk_drew ?_ | refine blk_alloc ?_ _)); exact BK199.out)) : gb200 ≠ gb199)); clear BK199; clear HB; have BK199 := n0_; have HB := n1_; have BK200 := n2_; have GW200 := n3_; have GE200 := n4_; have NB199_200 := n5_; have NB200_199 := n6_; clear n0_ n1_ n2_ n3_ n4_ n5_ n6_; clear hb hbox hg; have hnb7 := NB199_200.out; have hnc7 := NB200_199.out; have hcz8_0 : w6.cell? ⟨gb199, 0, none⟩ = some (.int .i64 a0_0) := (blk_cell BK199.out 0).trans rfl; have hcz8_1 : w6.cell? ⟨gb199, 1, none⟩ = some (.int .i64 a0_1) := (blk_cell BK199.out 1).trans rfl; have hcz8_2 : w6.cell? ⟨gb199, 2, none⟩ = some (.string a0_2) := (blk_cell BK199.out 2).trans rfl; have hfz8_0 := blk_frozen BK199.out 0; have hfz8_1 := blk_frozen BK199.out 1; have hfz8_2 := blk_frozen BK199.out 2; have hcz9_0 : w6.cell? ⟨gb200, 0, none⟩ = some (.int .i64 a1_0) := (blk_cell BK200.out 0).trans rfl; have hcz9_1 : w6.cell? ⟨gb200, 1, none⟩ = some (.int .i64 a1_1) := (blk_cell BK200.out 1).trans rfl; have hcz9_2 : w6.cell? ⟨gb200, 2, none⟩ = some (.string a1_2) := (blk_cell BK200.out 2).trans rfl; have hfz9_0 := blk_frozen BK200.out 0; have hfz9_1 := blk_frozen BK200.out 1; have hfz9_2 := blk_frozen BK200.out 2))
   go_ret
   exact ⟨by first | rfl | (simp [errW_none, errW_some] <;> rfl) | (simp [*, errW_none, errW_some] <;> rfl), by repeat (first | (with_reducible first | exact HB.out | apply below_alloc | apply pw_below_drewN | apply below_drew1 | refine below_set ?_ GE199.out | refine below_set ?_ GE200.out) | exact HB.out)⟩
  ·rw [if_neg c4] at H
   have c4b0 : (a0_1 == a1_1) = false := beq_eq_false_iff_ne.mpr c4
   have c4b1 : (a0_1 != a1_1) = true := bne_iff_ne.mpr c4
   obtain rfl := Option.some.inj H
   go_enter Tryd.func8, Tryd.ntmps8
   go_wp2_with (first | ((with_reducible refine gate_dst (N := 2) rfl ?_); refine box_event ?hg (N := 2) ?hd (cs := #[.int .i64 a0_0, .int .i64 a0_1, .string a0_2]) (t := 30) ?hr ?_; (case hd => rfl); (case hg => rfl); (case hr => first | (go_simp; done) | (go_simp; rfl)); intro gb199 hg w10 hbox hb; have n0_ := Aside0.mk (below_step (by repeat (first | (with_reducible first | exact HB.out | apply below_alloc | apply pw_below_drewN | apply below_drew1) | exact HB.out)) hb); have n1_ := Aside0.mk (hbox); have n2_ := Aside0.mk ((by rw [hg]; exact (below_size (by repeat (first | (with_reducible first | exact HB.out | apply below_alloc | apply pw_below_drewN | apply below_drew1) | exact HB.out))) : w.heap.size ≤ gb199)); have n3_ := Aside0.mk ((by rw [hg]; exact (below_size (by repeat (first | (with_reducible first | exact HB.out | apply below_alloc | apply pw_below_drewN | apply below_drew1) | exact HB.out))) : w.heap.size ≤ gb199)); clear HB; have HB := n0_; have BK199 := n1_; have GW199 := n2_; have GE199 := n3_; clear n0_ n1_ n2_ n3_; clear hb hbox hg) | ((with_reducible refine gate_dst (N := 3) rfl ?_); refine box_event ?hg (N := 3) ?hd (cs := #[.int .i64 a1_0, .int .i64 a1_1, .string a1_2]) (t := 30) ?hr ?_; (case hd => rfl); (case hg => rfl); (case hr => first | (go_simp; done) | (go_simp; rfl)); intro gb200 hg w11 hbox hb; have n0_ := Aside0.mk (blk_below (g := gb199) (o := .cells #[.int .i64 a0_0, .int .i64 a0_1, .string a0_2] 30 (0, 0)) (by (with_reducible repeat (first | refine blk_drewN ?_ _ | refine blk_drew ?_ | refine blk_alloc ?_ _)); exact BK199.out) hb); have n1_ := Aside0.mk (below_step (by repeat (first | (with_reducible first | exact HB.out | apply below_alloc | apply pw_below_drewN | apply below_drew1 | refine below_set ?_ GE199.out) | exact HB.out)) hb); have n2_ := Aside0.mk (hbox); have n3_ := Aside0.mk ((by rw [hg]; exact (below_size (by repeat (first | (with_reducible first | exact HB.out | apply below_alloc | apply pw_below_drewN | apply below_drew1 | refine below_set ?_ GE199.out) | exact HB.out))) : w.heap.size ≤ gb200)); have n4_ := Aside0.mk ((by rw [hg]; exact (below_size (by repeat (first | (with_reducible first | exact HB.out | apply below_alloc | apply pw_below_drewN | apply below_drew1 | refine below_set ?_ GE199.out) | exact HB.out))) : w.heap.size ≤ gb200)); have n5_ := Aside0.mk ((by rw [hg]; exact Nat.ne_of_lt (blk_lt (g := gb199) (o := .cells #[.int .i64 a0_0, .int .i64 a0_1, .string a0_2] 30 (0, 0)) (by (with_reducible repeat (first | refine blk_drewN ?_ _ | refine blk_drew ?_ | refine blk_alloc ?_ _)); exact BK199.out)) : gb199 ≠ gb200)); have n6_ := Aside0.mk ((by rw [hg]; exact Nat.ne_of_gt (blk_lt (g := gb199) (o := .cells #[.int .i64 a0_0, .int .i64 a0_1, .string a0_2] 30 (0, 0)) (by (with_reducible repeat (first | refine blk_drewN ?_ _ | refine blk_drew ?_ | refine blk_alloc ?_ _)); exact BK199.out)) : gb200 ≠ gb199)); clear BK199; clear HB; have BK199 := n0_; have HB := n1_; have BK200 := n2_; have GW200 := n3_; have GE200 := n4_; have NB199_200 := n5_; have NB200_199 := n6_; clear n0_ n1_ n2_ n3_ n4_ n5_ n6_; clear hb hbox hg; have hnb12 := NB199_200.out; have hnc12 := NB200_199.out; have hcz13_0 : w11.cell? ⟨gb199, 0, none⟩ = some (.int .i64 a0_0) := (blk_cell BK199.out 0).trans rfl; have hcz13_1 : w11.cell? ⟨gb199, 1, none⟩ = some (.int .i64 a0_1) := (blk_cell BK199.out 1).trans rfl; have hcz13_2 : w11.cell? ⟨gb199, 2, none⟩ = some (.string a0_2) := (blk_cell BK199.out 2).trans rfl; have hfz13_0 := blk_frozen BK199.out 0; have hfz13_1 := blk_frozen BK199.out 1; have hfz13_2 := blk_frozen BK199.out 2; have hcz14_0 : w11.cell? ⟨gb200, 0, none⟩ = some (.int .i64 a1_0) := (blk_cell BK200.out 0).trans rfl; have hcz14_1 : w11.cell? ⟨gb200, 1, none⟩ = some (.int .i64 a1_1) := (blk_cell BK200.out 1).trans rfl; have hcz14_2 : w11.cell? ⟨gb200, 2, none⟩ = some (.string a1_2) := (blk_cell BK200.out 2).trans rfl; have hfz14_0 := blk_frozen BK200.out 0; have hfz14_1 := blk_frozen BK200.out 1; have hfz14_2 := blk_frozen BK200.out 2))
   go_ret
   exact ⟨by first | rfl | (simp [errW_none, errW_some] <;> rfl) | (simp [*, errW_none, errW_some] <;> rfl), by repeat (first | (with_reducible first | exact HB.out | apply below_alloc | apply pw_below_drewN | apply below_drew1 | refine below_set ?_ GE199.out | refine below_set ?_ GE200.out) | exact HB.out)⟩
 ·rw [if_neg c3] at H
  have c3b0 : (a0_0 == a1_0) = false := beq_eq_false_iff_ne.mpr c3
  have c3b1 : (a0_0 != a1_0) = true := bne_iff_ne.mpr c3
  obtain rfl := Option.some.inj H
  go_enter Tryd.func8, Tryd.ntmps8
  go_wp2_with (first | ((with_reducible refine gate_dst (N := 2) rfl ?_); refine box_event ?hg (N := 2) ?hd (cs := #[.int .i64 a0_0, .int .i64 a0_1, .string a0_2]) (t := 30) ?hr ?_; (case hd => rfl); (case hg => rfl); (case hr => first | (go_simp; done) | (go_simp; rfl)); intro gb199 hg w15 hbox hb; have n0_ := Aside0.mk (below_step (by repeat (first | (with_reducible first | exact HB.out | apply below_alloc | apply pw_below_drewN | apply below_drew1) | exact HB.out)) hb); have n1_ := Aside0.mk (hbox); have n2_ := Aside0.mk ((by rw [hg]; exact (below_size (by repeat (first | (with_reducible first | exact HB.out | apply below_alloc | apply pw_below_drewN | apply below_drew1) | exact HB.out))) : w.heap.size ≤ gb199)); have n3_ := Aside0.mk ((by rw [hg]; exact (below_size (by repeat (first | (with_reducible first | exact HB.out | apply below_alloc | apply pw_below_drewN | apply below_drew1) | exact HB.out))) : w.heap.size ≤ gb199)); clear HB; have HB := n0_; have BK199 := n1_; have GW199 := n2_; have GE199 := n3_; clear n0_ n1_ n2_ n3_; clear hb hbox hg) | ((with_reducible refine gate_dst (N := 3) rfl ?_); refine box_event ?hg (N := 3) ?hd (cs := #[.int .i64 a1_0, .int .i64 a1_1, .string a1_2]) (t := 30) ?hr ?_; (case hd => rfl); (case hg => rfl); (case hr => first | (go_simp; done) | (go_simp; rfl)); intro gb200 hg w16 hbox hb; have n0_ := Aside0.mk (blk_below (g := gb199) (o := .cells #[.int .i64 a0_0, .int .i64 a0_1, .string a0_2] 30 (0, 0)) (by (with_reducible repeat (first | refine blk_drewN ?_ _ | refine blk_drew ?_ | refine blk_alloc ?_ _)); exact BK199.out) hb); have n1_ := Aside0.mk (below_step (by repeat (first | (with_reducible first | exact HB.out | apply below_alloc | apply pw_below_drewN | apply below_drew1 | refine below_set ?_ GE199.out) | exact HB.out)) hb); have n2_ := Aside0.mk (hbox); have n3_ := Aside0.mk ((by rw [hg]; exact (below_size (by repeat (first | (with_reducible first | exact HB.out | apply below_alloc | apply pw_below_drewN | apply below_drew1 | refine below_set ?_ GE199.out) | exact HB.out))) : w.heap.size ≤ gb200)); have n4_ := Aside0.mk ((by rw [hg]; exact (below_size (by repeat (first | (with_reducible first | exact HB.out | apply below_alloc | apply pw_below_drewN | apply below_drew1 | refine below_set ?_ GE199.out) | exact HB.out))) : w.heap.size ≤ gb200)); have n5_ := Aside0.mk ((by rw [hg]; exact Nat.ne_of_lt (blk_lt (g := gb199) (o := .cells #[.int .i64 a0_0, .int .i64 a0_1, .string a0_2] 30 (0, 0)) (by (with_reducible repeat (first | refine blk_drewN ?_ _ | refine blk_drew ?_ | refine blk_alloc ?_ _)); exact BK199.out)) : gb199 ≠ gb200)); have n6_ := Aside0.mk ((by rw [hg]; exact Nat.ne_of_gt (blk_lt (g := gb199) (o := .cells #[.int .i64 a0_0, .int .i64 a0_1, .string a0_2] 30 (0, 0)) (by (with_reducible repeat (first | refine blk_drewN ?_ _ | refine blk_drew ?_ | refine blk_alloc ?_ _)); exact BK199.out)) : gb200 ≠ gb199)); clear BK199; clear HB; have BK199 := n0_; have HB := n1_; have BK200 := n2_; have GW200 := n3_; have GE200 := n4_; have NB199_200 := n5_; have NB200_199 := n6_; clear n0_ n1_ n2_ n3_ n4_ n5_ n6_; clear hb hbox hg; have hnb17 := NB199_200.out; have hnc17 := NB200_199.out; have hcz18_0 : w16.cell? ⟨gb199, 0, none⟩ = some (.int .i64 a0_0) := (blk_cell BK199.out 0).trans rfl; have hcz18_1 : w16.cell? ⟨gb199, 1, none⟩ = some (.int .i64 a0_1) := (blk_cell BK199.out 1).trans rfl; have hcz18_2 : w16.cell? ⟨gb199, 2, none⟩ = some (.string a0_2) := (blk_cell BK199.out 2).trans rfl; have hfz18_0 := blk_frozen BK199.out 0; have hfz18_1 := blk_frozen BK199.out 1; have hfz18_2 := blk_frozen BK199.out 2; have hcz19_0 : w16.cell? ⟨gb200, 0, none⟩ = some (.int .i64 a1_0) := (blk_cell BK200.out 0).trans rfl; have hcz19_1 : w16.cell? ⟨gb200, 1, none⟩ = some (.int .i64 a1_1) := (blk_cell BK200.out 1).trans rfl; have hcz19_2 : w16.cell? ⟨gb200, 2, none⟩ = some (.string a1_2) := (blk_cell BK200.out 2).trans rfl; have hfz19_0 := blk_frozen BK200.out 0; have hfz19_1 := blk_frozen BK200.out 1; have hfz19_2 := blk_frozen BK200.out 2))
  go_ret
  exact ⟨by first | rfl | (simp [errW_none, errW_some] <;> rfl) | (simp [*, errW_none, errW_some] <;> rfl), by repeat (first | (with_reducible first | exact HB.out | apply below_alloc | apply pw_below_drewN | apply below_drew1 | refine below_set ?_ GE199.out | refine below_set ?_ GE200.out) | exact HB.out)⟩
/-! ### truantlaw18_form: function 9 -/
def truantlaw18_form.f (a0_0 : Int) (a0_1 : Int) (a0_2 : ByteArray) : Option (Int × Int × ByteArray) := some (a0_0, a0_1, a0_2)
set_option maxHeartbeats 8000000 in
set_option maxRecDepth 100000 in
theorem truantlaw18_form.calls (a0_0 : Int) (a0_1 : Int) (a0_2 : ByteArray) (r1 : Int) (r2 : Int) (r3 : ByteArray) (w : World) (h : truantlaw18_form.f a0_0 a0_1 a0_2 = some (r1, r2, r3)) :
  Calls Tryd.prog 9 #[.agg #[.int .i64 a0_0, .int .i64 a0_1, .string a0_2]] w fun e w' => e = .returned (.agg #[.int .i64 r1, .int .i64 r2, .string r3]) ∧ Below w.heap.size w w' := by
 have hu24 := Tryd.underlying24
 have hu30 := Tryd.underlying30
 have HB := Aside0.mk (Below.refl w.heap.size w)
 have H : (some (a0_0, a0_1, a0_2)) = some (r1, r2, r3) := h
 clear h
 simp only [Option.some.injEq, Prod.mk.injEq] at H
 obtain ⟨rfl, rfl, rfl⟩ := H
 go_enter Tryd.func9, Tryd.ntmps9
 go_wp2_with (first | ((with_reducible refine gate_dst (N := 1) rfl ?_); refine box_event ?hg (N := 1) ?hd (cs := #[.int .i64 a0_0, .int .i64 a0_1, .string a0_2]) (t := 24) ?hr ?_; (case hd => rfl); (case hg => rfl); (case hr => first | (go_simp; done) | (go_simp; rfl)); intro gb201 hg w2 hbox hb; have n0_ := Aside0.mk (below_step (by repeat (first | (with_reducible first | exact HB.out | apply below_alloc | apply pw_below_drewN | apply below_drew1) | exact HB.out)) hb); have n1_ := Aside0.mk (hbox); have n2_ := Aside0.mk ((by rw [hg]; exact (below_size (by repeat (first | (with_reducible first | exact HB.out | apply below_alloc | apply pw_below_drewN | apply below_drew1) | exact HB.out))) : w.heap.size ≤ gb201)); have n3_ := Aside0.mk ((by rw [hg]; exact (below_size (by repeat (first | (with_reducible first | exact HB.out | apply below_alloc | apply pw_below_drewN | apply below_drew1) | exact HB.out))) : w.heap.size ≤ gb201)); clear HB; have HB := n0_; have BK201 := n1_; have GW201 := n2_; have GE201 := n3_; clear n0_ n1_ n2_ n3_; clear hb hbox hg) | ((with_reducible refine gate_dst (N := 2) rfl ?_); refine box_event ?hg (N := 2) ?hd (cs := #[.int .i64 0, .int .i64 0, .string (⟨#[]⟩ : ByteArray)]) (t := 30) ?hr ?_; (case hd => rfl); (case hg => rfl); (case hr => first | (go_simp; done) | (go_simp; rfl)); intro gb202 hg w3 hbox hb; have n0_ := Aside0.mk (blk_below (g := gb201) (o := .cells #[.int .i64 a0_0, .int .i64 a0_1, .string a0_2] 24 (0, 0)) (by (with_reducible repeat (first | refine blk_drewN ?_ _ | refine blk_drew ?_ | refine blk_alloc ?_ _)); exact BK201.out) hb); have n1_ := Aside0.mk (below_step (by repeat (first | (with_reducible first | exact HB.out | apply below_alloc | apply pw_below_drewN | apply below_drew1 | refine below_set ?_ GE201.out) | exact HB.out)) hb); have n2_ := Aside0.mk (hbox); have n3_ := Aside0.mk ((by rw [hg]; exact (below_size (by repeat (first | (with_reducible first | exact HB.out | apply below_alloc | apply pw_below_drewN | apply below_drew1 | refine below_set ?_ GE201.out) | exact HB.out))) : w.heap.size ≤ gb202)); have n4_ := Aside0.mk ((by rw [hg]; exact (below_size (by repeat (first | (with_reducible first | exact HB.out | apply below_alloc | apply pw_below_drewN | apply below_drew1 | refine below_set ?_ GE201.out) | exact HB.out))) : w.heap.size ≤ gb202)); have n5_ := Aside0.mk ((by rw [hg]; exact Nat.ne_of_lt (blk_lt (g := gb201) (o := .cells #[.int .i64 a0_0, .int .i64 a0_1, .string a0_2] 24 (0, 0)) (by (with_reducible repeat (first | refine blk_drewN ?_ _ | refine blk_drew ?_ | refine blk_alloc ?_ _)); exact BK201.out)) : gb201 ≠ gb202)); have n6_ := Aside0.mk ((by rw [hg]; exact Nat.ne_of_gt (blk_lt (g := gb201) (o := .cells #[.int .i64 a0_0, .int .i64 a0_1, .string a0_2] 24 (0, 0)) (by (with_reducible repeat (first | refine blk_drewN ?_ _ | refine blk_drew ?_ | refine blk_alloc ?_ _)); exact BK201.out)) : gb202 ≠ gb201)); clear BK201; clear HB; have BK201 := n0_; have HB := n1_; have BK202 := n2_; have GW202 := n3_; have GE202 := n4_; have NB201_202 := n5_; have NB202_201 := n6_; clear n0_ n1_ n2_ n3_ n4_ n5_ n6_; clear hb hbox hg; have hnb4 := NB201_202.out; have hnc4 := NB202_201.out; have hcz5_0 : w3.cell? ⟨gb201, 0, none⟩ = some (.int .i64 a0_0) := (blk_cell BK201.out 0).trans rfl; have hcz5_1 : w3.cell? ⟨gb201, 1, none⟩ = some (.int .i64 a0_1) := (blk_cell BK201.out 1).trans rfl; have hcz5_2 : w3.cell? ⟨gb201, 2, none⟩ = some (.string a0_2) := (blk_cell BK201.out 2).trans rfl; have hfz5_0 := blk_frozen BK201.out 0; have hfz5_1 := blk_frozen BK201.out 1; have hfz5_2 := blk_frozen BK201.out 2; have hcz6_0 : w3.cell? ⟨gb202, 0, none⟩ = some (.int .i64 0) := (blk_cell BK202.out 0).trans rfl; have hcz6_1 : w3.cell? ⟨gb202, 1, none⟩ = some (.int .i64 0) := (blk_cell BK202.out 1).trans rfl; have hcz6_2 : w3.cell? ⟨gb202, 2, none⟩ = some (.string (⟨#[]⟩ : ByteArray)) := (blk_cell BK202.out 2).trans rfl; have hfz6_0 := blk_frozen BK202.out 0; have hfz6_1 := blk_frozen BK202.out 1; have hfz6_2 := blk_frozen BK202.out 2))
 refine bodyPost_ret (results_cell_row rfl _ _ gb202 30 #[.int .i64 a0_0, .int .i64 a0_1, .string a0_2] (0, 0) _ rfl (by (with_reducible repeat (first | refine blk_drewN ?_ _ | refine blk_drew ?_ | refine blk_alloc ?_ _)); refine blk_put (cs := #[.int .i64 a0_0, .int .i64 a0_1, .string (⟨#[]⟩ : ByteArray)]) ?_ 2 _ rfl; (with_reducible repeat (first | refine blk_drewN ?_ _ | refine blk_drew ?_ | refine blk_alloc ?_ _)); refine blk_put (cs := #[.int .i64 a0_0, .int .i64 0, .string (⟨#[]⟩ : ByteArray)]) ?_ 1 _ rfl; (with_reducible repeat (first | refine blk_drewN ?_ _ | refine blk_drew ?_ | refine blk_alloc ?_ _)); refine blk_put (cs := #[.int .i64 0, .int .i64 0, .string (⟨#[]⟩ : ByteArray)]) ?_ 0 _ rfl; (with_reducible repeat (first | refine blk_drewN ?_ _ | refine blk_drew ?_ | refine blk_alloc ?_ _)); exact BK202.out) Tryd.underlying30 rfl (by kernel_rfl)) rfl ?_
 exact ⟨by first | rfl | (simp [errW_none, errW_some] <;> rfl) | (simp [*, errW_none, errW_some] <;> rfl), by repeat (first | (with_reducible first | exact HB.out | apply below_alloc | apply pw_below_drewN | apply below_drew1 | refine below_set ?_ GE201.out | refine below_set ?_ GE202.out) | exact HB.out)⟩
/-! ### truantref03_Find: function 31 -/
def truantref03_Find.l0 : Nat → List (S28) → ByteArray → Int → Option (Int)
 | 0, _, _, _ => none
 | k + 1, x0, x1, x5 => if x5 < (x0.length : Int) then (if 0 ≤ x5 then (if ((rd_T28 x0 x5).f0).toList = x1.toList then (some x5) else (truantref03_Find.l0 k x0 x1 (wrap64 (x5 + 1)))) else (none)) else (some (-1))
def truantref03_Find.f (k : Nat) (l0 : List (S28)) (a1 : ByteArray) : Option (Int) := truantref03_Find.l0 k l0 a1 0
theorem truantref03_Find.mono_l : ∀ k, (∀ y0 y1 y2, LeO (truantref03_Find.l0 k y0 y1 y2) (truantref03_Find.l0 (k + 1) y0 y1 y2))
 | 0 => fun _ _ _ r h => by simp [truantref03_Find.l0] at h
 | k + 1 => by
  have ih0 := truantref03_Find.mono_l k
  ·intro y0 y1 y2
   unfold truantref03_Find.l0
   repeat' first
   | (with_reducible exact ih0 _ _ _)
   | (with_reducible exact LeO.refl _)
   | (with_reducible exact LeO.none _)
   | (with_reducible refine LeO.ite ?_ ?_)
   | (with_reducible refine LeO.bind ?_ (fun _ => ?_))
   | exact ih0 _ _ _
   | exact LeO.none _
   | refine LeO.ite ?_ ?_
   | refine LeO.bind ?_ (fun _ => ?_)
theorem truantref03_Find.mono : ∀ a0 a1 k, LeO (truantref03_Find.f k a0 a1) (truantref03_Find.f (k + 1) a0 a1) := by
 intro a0 a1 k
 have ih0 := truantref03_Find.mono_l k
 unfold truantref03_Find.f
 repeat' first
   | (with_reducible exact ih0 _ _ _)
   | (with_reducible exact LeO.refl _)
   | (with_reducible exact LeO.none _)
   | (with_reducible refine LeO.ite ?_ ?_)
   | (with_reducible refine LeO.bind ?_ (fun _ => ?_))
   | exact ih0 _ _ _
   | exact LeO.none _
   | refine LeO.ite ?_ ?_
   | refine LeO.bind ?_ (fun _ => ?_)
set_option maxHeartbeats 8000000 in
set_option maxRecDepth 100000 in
theorem truantref03_Find.calls (k : Nat) (A0 : Option Addr) (c0 : Nat) (l0 : List (S28)) (a1 : ByteArray) (r : Int) (w : World) (hr0 : Kd.C k28 w A0 l0.length l0) (hc0 : l0.length ≤ c0) (h : truantref03_Find.f k l0 a1 = some r) :
  Calls Tryd.prog 31 #[.slice A0 l0.length c0, .string a1] w fun e w' => e = .returned (.int .i64 r) ∧ Drawn0 w w' := by
 have HR0 := Aside0.mk hr0
 have HC0 := Aside0.mk hc0
 clear hr0 hc0
 have H : (truantref03_Find.l0 k l0 a1 0) = some r := h
 clear h
 have H' := Aside0.mk H
 clear H
 go_enter Tryd.func31, Tryd.ntmps31
 go_wp2
 go_loopg [5] k (fun kq v5 w' => ∃ (x5_1 : Int), v5 = .int .i64 x5_1 ∧ Aside0 (truantref03_Find.l0 kq l0 a1 x5_1 = some r) ∧ Aside0 (kq ≤ k) ∧ Drawn0 w w')
 case atStart => exact ⟨(0), (by first | rfl | (simp; done) | (simp [*]; done)), H', ⟨Nat.le_refl _⟩, by repeat (first | exact Drawn0.refl _ | apply Drawn0.step)⟩
 case round =>
  clear H'
  try clear p2
  obtain ⟨x5_1, rfl, HA, HK1, ⟨m1, rfl⟩⟩ := hrel
  cases gk with
  | zero => exact absurd HA.out (by simp [truantref03_Find.l0])
  | succ k1 =>
   have H := HA.out
   clear HA
   simp only [truantref03_Find.l0] at H
   by_cases c3 : x5_1 < (l0.length : Int)
   ·rw [if_pos c3] at H
    have c3b0 : decide (x5_1 < (l0.length : Int)) = true := decide_eq_true c3
    clear c3
    by_cases c4 : 0 ≤ x5_1
    ·rw [if_pos c4] at H
     have c4b0 : decide (0 ≤ x5_1) = true := decide_eq_true c4
     clear c4
     by_cases c5 : ((rd_T28 l0 x5_1).f0).toList = a1.toList
     ·rw [if_pos c5] at H
      have c5b0 : (((rd_T28 l0 x5_1).f0).toList == a1.toList) = true := beq_iff_eq.mpr c5
      have c5b1 : (((rd_T28 l0 x5_1).f0).toList != a1.toList) = false := bne_eq_false_iff_eq.mpr c5
      clear c5
      obtain rfl := Option.some.inj H
      have p203 : 0 ≤ (x5_1 : Int) := of_decide_eq_true (by first | (with_reducible assumption) | assumption)
      have q203 : x5_1 < (l0.length : Int) := of_decide_eq_true (by first | (with_reducible assumption) | assumption)
      obtain ⟨ad203, A203_1, c203_1, e203, hx203_0, hx203_1, hl203_1, hi203_1⟩ := at_T28 HR0.out x5_1 p203 q203
      cases e203
      have HR203_1 := Aside0.mk hi203_1
      have HC203_1 := Aside0.mk hl203_1
      clear hi203_1 hl203_1
      replace p203 := eq_true p203
      replace q203 := eq_true q203
      go_wp2
      go_ret
      exact ⟨by first | rfl | (simp; done) | (simp [*]; done), by repeat (first | exact Drawn0.refl _ | apply Drawn0.step)⟩
     ·rw [if_neg c5] at H
      have c5b0 : (((rd_T28 l0 x5_1).f0).toList == a1.toList) = false := beq_eq_false_iff_ne.mpr c5
      have c5b1 : (((rd_T28 l0 x5_1).f0).toList != a1.toList) = true := bne_iff_ne.mpr c5
      have H' := Aside0.mk H
      clear H
      have p203 : 0 ≤ (x5_1 : Int) := of_decide_eq_true (by first | (with_reducible assumption) | assumption)
      have q203 : x5_1 < (l0.length : Int) := of_decide_eq_true (by first | (with_reducible assumption) | assumption)
      obtain ⟨ad203, A203_1, c203_1, e203, hx203_0, hx203_1, hl203_1, hi203_1⟩ := at_T28 HR0.out x5_1 p203 q203
      cases e203
      have HR203_1 := Aside0.mk hi203_1
      have HC203_1 := Aside0.mk hl203_1
      clear hi203_1 hl203_1
      replace p203 := eq_true p203
      replace q203 := eq_true q203
      go_wp2
      go_roundg k1
      case measure => have := HK1.out; omega
      case rel => exact ⟨(wrap64 (x5_1 + 1)), (by first | rfl | (simp; done) | (simp [*]; done)), H', ⟨by have := HK1.out; omega⟩, by repeat (first | exact Drawn0.refl _ | apply Drawn0.step)⟩
    ·rw [if_neg c4] at H
     exact absurd H (by simp)
   ·rw [if_neg c3] at H
    have c3b0 : decide (x5_1 < (l0.length : Int)) = false := decide_eq_false c3
    clear c3
    obtain rfl := Option.some.inj H
    go_wp2
    go_ret
    exact ⟨by first | rfl | (simp; done) | (simp [*]; done), by repeat (first | exact Drawn0.refl _ | apply Drawn0.step)⟩
/-! ### truantref02_letter: function 59 -/
def truantref02_letter.f (a0 : Int) : Option (Bool) := if a0 ≥ 97 then (if a0 ≤ 122 then (some true) else (if a0 ≥ 65 then (if a0 ≤ 90 then (some true) else (some (a0 == 95))) else (some (a0 == 95)))) else (if a0 ≥ 65 then (if a0 ≤ 90 then (some true) else (some (a0 == 95))) else (some (a0 == 95)))
set_option maxHeartbeats 8000000 in
set_option maxRecDepth 100000 in
theorem truantref02_letter.calls (a0 : Int) (r : Bool) (w : World) (h : truantref02_letter.f a0 = some r) :
  Calls Tryd.prog 59 #[.int .u8 a0] w fun e w' => e = .returned (.bool r) ∧ Drawn0 w w' := by
 have H : (if a0 ≥ 97 then (if a0 ≤ 122 then (some true) else (if a0 ≥ 65 then (if a0 ≤ 90 then (some true) else (some (a0 == 95))) else (some (a0 == 95)))) else (if a0 ≥ 65 then (if a0 ≤ 90 then (some true) else (some (a0 == 95))) else (some (a0 == 95)))) = some r := h
 clear h
 by_cases c2 : a0 ≥ 97
 ·rw [if_pos c2] at H
  have c2b0 : decide (97 ≤ a0) = true := decide_eq_true c2
  clear c2
  by_cases c3 : a0 ≤ 122
  ·rw [if_pos c3] at H
   have c3b0 : decide (a0 ≤ 122) = true := decide_eq_true c3
   clear c3
   obtain rfl := Option.some.inj H
   go_enter Tryd.func59, Tryd.ntmps59
   go_wp2
   go_ret
   exact ⟨by first | rfl | (simp; done) | (simp [*]; done), by repeat (first | exact Drawn0.refl _ | apply Drawn0.step)⟩
  ·rw [if_neg c3] at H
   have c3b0 : decide (a0 ≤ 122) = false := decide_eq_false c3
   clear c3
   by_cases c4 : a0 ≥ 65
   ·rw [if_pos c4] at H
    have c4b0 : decide (65 ≤ a0) = true := decide_eq_true c4
    clear c4
    by_cases c5 : a0 ≤ 90
    ·rw [if_pos c5] at H
     have c5b0 : decide (a0 ≤ 90) = true := decide_eq_true c5
     clear c5
     obtain rfl := Option.some.inj H
     go_enter Tryd.func59, Tryd.ntmps59
     go_wp2
     go_ret
     exact ⟨by first | rfl | (simp; done) | (simp [*]; done), by repeat (first | exact Drawn0.refl _ | apply Drawn0.step)⟩
    ·rw [if_neg c5] at H
     have c5b0 : decide (a0 ≤ 90) = false := decide_eq_false c5
     clear c5
     obtain rfl := Option.some.inj H
     go_enter Tryd.func59, Tryd.ntmps59
     go_wp2
     go_ret
     exact ⟨by first | rfl | (simp; done) | (simp [*]; done), by repeat (first | exact Drawn0.refl _ | apply Drawn0.step)⟩
   ·rw [if_neg c4] at H
    have c4b0 : decide (65 ≤ a0) = false := decide_eq_false c4
    clear c4
    obtain rfl := Option.some.inj H
    go_enter Tryd.func59, Tryd.ntmps59
    go_wp2
    go_ret
    exact ⟨by first | rfl | (simp; done) | (simp [*]; done), by repeat (first | exact Drawn0.refl _ | apply Drawn0.step)⟩
 ·rw [if_neg c2] at H
  have c2b0 : decide (97 ≤ a0) = false := decide_eq_false c2
  clear c2
  by_cases c6 : a0 ≥ 65
  ·rw [if_pos c6] at H
   have c6b0 : decide (65 ≤ a0) = true := decide_eq_true c6
   clear c6
   by_cases c7 : a0 ≤ 90
   ·rw [if_pos c7] at H
    have c7b0 : decide (a0 ≤ 90) = true := decide_eq_true c7
    clear c7
    obtain rfl := Option.some.inj H
    go_enter Tryd.func59, Tryd.ntmps59
    go_wp2
    go_ret
    exact ⟨by first | rfl | (simp; done) | (simp [*]; done), by repeat (first | exact Drawn0.refl _ | apply Drawn0.step)⟩
   ·rw [if_neg c7] at H
    have c7b0 : decide (a0 ≤ 90) = false := decide_eq_false c7
    clear c7
    obtain rfl := Option.some.inj H
    go_enter Tryd.func59, Tryd.ntmps59
    go_wp2
    go_ret
    exact ⟨by first | rfl | (simp; done) | (simp [*]; done), by repeat (first | exact Drawn0.refl _ | apply Drawn0.step)⟩
  ·rw [if_neg c6] at H
   have c6b0 : decide (65 ≤ a0) = false := decide_eq_false c6
   clear c6
   obtain rfl := Option.some.inj H
   go_enter Tryd.func59, Tryd.ntmps59
   go_wp2
   go_ret
   exact ⟨by first | rfl | (simp; done) | (simp [*]; done), by repeat (first | exact Drawn0.refl _ | apply Drawn0.step)⟩
/-! ### truantref02_digit: function 61 -/
def truantref02_digit.f (a0 : Int) : Option (Bool) := if a0 ≥ 48 then (some (decide (a0 ≤ 57))) else (some false)
set_option maxHeartbeats 8000000 in
set_option maxRecDepth 100000 in
theorem truantref02_digit.calls (a0 : Int) (r : Bool) (w : World) (h : truantref02_digit.f a0 = some r) :
  Calls Tryd.prog 61 #[.int .u8 a0] w fun e w' => e = .returned (.bool r) ∧ Drawn0 w w' := by
 have H : (if a0 ≥ 48 then (some (decide (a0 ≤ 57))) else (some false)) = some r := h
 clear h
 by_cases c2 : a0 ≥ 48
 ·rw [if_pos c2] at H
  have c2b0 : decide (48 ≤ a0) = true := decide_eq_true c2
  clear c2
  obtain rfl := Option.some.inj H
  go_enter Tryd.func61, Tryd.ntmps61
  go_wp2
  go_ret
  exact ⟨by first | rfl | (simp; done) | (simp [*]; done), by repeat (first | exact Drawn0.refl _ | apply Drawn0.step)⟩
 ·rw [if_neg c2] at H
  have c2b0 : decide (48 ≤ a0) = false := decide_eq_false c2
  clear c2
  obtain rfl := Option.some.inj H
  go_enter Tryd.func61, Tryd.ntmps61
  go_wp2
  go_ret
  exact ⟨by first | rfl | (simp; done) | (simp [*]; done), by repeat (first | exact Drawn0.refl _ | apply Drawn0.step)⟩
end Go.Proofs.YtgidnkmlnccaiaaDoor.Q
/- 'truantref02.Key': by hand. -/
namespace Go.Proofs.YtgidnkmlnccaiaaDoor.Q
open Go.RowKit Go.Proofs.YtgidnkmlnccaiaaDoorW.PrintWords Go.Proofs.YtgidnkmlnccaiaaDoorW.PrintLast Go.Proofs.YtgidnkmlnccaiaaDoorW.PrintMore
set_option linter.unusedVariables false
set_option linter.unusedSimpArgs false
def keyList : List ByteArray := [⟨#[116, 121, 112, 101]⟩, ⟨#[115, 116, 114, 117, 99, 116]⟩, ⟨#[102, 117, 110, 99]⟩, ⟨#[118, 97, 114]⟩, ⟨#[105, 102]⟩, ⟨#[101, 108, 115, 101]⟩, ⟨#[102, 111, 114]⟩, ⟨#[114, 101, 116, 117, 114, 110]⟩, ⟨#[112, 114, 105, 110, 116]⟩, ⟨#[110, 101, 119]⟩, ⟨#[110, 105, 108]⟩, ⟨#[116, 114, 117, 101]⟩, ⟨#[102, 97, 108, 115, 101]⟩, ⟨#[105, 110, 116]⟩, ⟨#[98, 111, 111, 108]⟩, ⟨#[114, 101, 97, 100]⟩]
def keyIs (s k : ByteArray) : Bool := k.toList == s.toList
def truantref02_Key.f (a0 : ByteArray) : Option (Bool) := some (decide (0 ≤ findR (keyIs a0) keyList))
set_option maxHeartbeats 800000 in
theorem truantref02_Key.calls (a0 : ByteArray) (r : Bool) (w : World) (h : truantref02_Key.f a0 = some r) :
  Calls Tryd.prog 60 #[.string a0] w fun e w' => e = .returned (.bool r) ∧ Below w.heap.size w w' := by
 unfold truantref02_Key.f at h
 have hr := Option.some.inj h
 have HRR := Aside0.mk hr
 clear h hr
 go_enter Tryd.func60, Tryd.ntmps60
 go_wp2_with fail
 have HC : Aside0 (∀ k : Nat, k < 16 → (w.alloc (.cells (keyList.map Value.string).toArray 112)).cell? ⟨w.heap.size, k, none⟩ = some (.string (keyList.getD k ⟨#[]⟩))) := ⟨fun k hk => by
  rw [World.cell?_alloc_at _ _ _ _ rfl]
  have h16 : k < keyList.length := hk
  simp [List.getD, List.getElem?_eq_getElem h16]⟩
 have HW : Aside0 (Below w.heap.size w (w.alloc (.cells (keyList.map Value.string).toArray 112))) := ⟨below_alloc (Below.refl _ _) _⟩
 have he : (keyList.map Value.string).toArray = #[.string ⟨#[116, 121, 112, 101]⟩, .string ⟨#[115, 116, 114, 117, 99, 116]⟩, .string ⟨#[102, 117, 110, 99]⟩, .string ⟨#[118, 97, 114]⟩, .string ⟨#[105, 102]⟩, .string ⟨#[101, 108, 115, 101]⟩, .string ⟨#[102, 111, 114]⟩, .string ⟨#[114, 101, 116, 117, 114, 110]⟩, .string ⟨#[112, 114, 105, 110, 116]⟩, .string ⟨#[110, 101, 119]⟩, .string ⟨#[110, 105, 108]⟩, .string ⟨#[116, 114, 117, 101]⟩, .string ⟨#[102, 97, 108, 115, 101]⟩, .string ⟨#[105, 110, 116]⟩, .string ⟨#[98, 111, 111, 108]⟩, .string ⟨#[114, 101, 97, 100]⟩] := rfl
 rw [he] at HC HW
 clear he
 generalize w.alloc _ = W1 at HC HW ⊢
 go_loopw [4] (fun v wr => ∃ k : Nat, v = .int .i64 k ∧ k ≤ 16 ∧ Aside0 (∀ i : Nat, i < k → keyIs a0 (keyList.getD i ⟨#[]⟩) = false) ∧ wr = W1) (fun v _ => 16 - (intOf v).toNat)
 case atStart => exact ⟨0, rfl, by omega, ⟨fun i h => absurd h (Nat.not_lt_zero _)⟩, rfl⟩
 case round =>
  obtain ⟨k, rfl, hk, HA, rfl⟩ := hrel
  by_cases hlt : k < 16
  ·have hc := HC.out k hlt
   obtain ⟨x, ex⟩ : ∃ x, x = keyList.getD k ⟨#[]⟩ := ⟨_, rfl⟩
   rw [← ex] at hc
   have EX := Aside0.mk ex; clear ex
   rcases he : (x.toList == a0.toList) with _ | _
   ·have he2 : ¬ x.toList = a0.toList := beq_eq_false_iff_ne.mp he
    have HA1 : Aside0 (∀ i : Nat, i < k + 1 → keyIs a0 (keyList.getD i ⟨#[]⟩) = false) := ⟨all_succ (P := fun i => keyIs a0 (keyList.getD i ⟨#[]⟩) = false) HA.out (by unfold keyIs; rw [← EX.out]; exact he)⟩
    clear HA EX
    go_wp2
    go_roundw
    case rel => exact ⟨k + 1, by go_num, by omega, HA1, by first | rfl | trivial⟩
    case measure => simp [intOf]; omega
   ·have HF : Aside0 (r = true) := ⟨by rw [← HRR.out, find_last (l := keyList) (z := ⟨#[]⟩) (k := k) hlt HA.out (by unfold keyIs; rw [← EX.out]; exact he)]; exact decide_eq_true (by omega)⟩
    have he2 : x.toList = a0.toList := beq_iff_eq.mp he
    clear EX HA
    go_wp2
    go_ret
    exact ⟨by rw [HF.out]; rfl, HW.out⟩
  ·have HF : Aside0 (r = false) := ⟨by rw [← HRR.out, find_none (l := keyList) (z := ⟨#[]⟩) (fun i hi => HA.out i (by have : keyList.length = 16 := rfl; omega))]; rfl⟩
   go_wp2
   go_ret
   exact ⟨by rw [HF.out]; rfl, HW.out⟩
end Go.Proofs.YtgidnkmlnccaiaaDoor.Q
namespace Go.Proofs.YtgidnkmlnccaiaaDoor.Q
open Go.RowKit Go.Proofs.YtgidnkmlnccaiaaDoorW.PrintWords Go.Proofs.YtgidnkmlnccaiaaDoorW.PrintLast Go.Proofs.YtgidnkmlnccaiaaDoorW.PrintMore
attribute [local go_sem] max2_int min2_int max_two min_two max_three min_three max_four min_four   -- for this text's walks alone
set_option linter.unusedVariables false
set_option linter.unusedSimpArgs false
/-! ### truantref02_Word: function 46 -/
mutual
def truantref02_Word.j0 : Nat → ByteArray → Bool → Option (Bool)
 | 0, _, _ => none
 | k + 1, x0, x21 => if x21 = true then (some false) else (truantref02_Word.l0 k x0 0)
def truantref02_Word.l0 : Nat → ByteArray → Int → Option (Bool)
 | 0, _, _ => none
 | k + 1, x0, x3 => if x3 < (x0.size : Int) then (if 0 ≤ x3 then ((truantref02_letter.f (bt x0 x3)).bind fun t206 => (if t206 = true then (truantref02_Word.l0 k x0 (wrap64 (x3 + 1))) else ((truantref02_digit.f (bt x0 x3)).bind fun t207 => (if t207 = true then (truantref02_Word.l0 k x0 (wrap64 (x3 + 1))) else (some false))))) else (none)) else (some true)
end
def truantref02_Word.f (k : Nat) (a0 : ByteArray) : Option (Bool) := if (a0.size : Int) = 0 then (truantref02_Word.j0 k a0 true) else (if (a0.size : Int) > 12 then (truantref02_Word.j0 k a0 true) else (if 0 < (a0.size : Int) then ((truantref02_letter.f (bt a0 0)).bind fun t204 => (if t204 = true then ((truantref02_Key.f a0).bind fun t205 => (truantref02_Word.j0 k a0 t205)) else (truantref02_Word.j0 k a0 true))) else (none)))
theorem truantref02_Word.mono_l : ∀ k, (∀ y0 y1, LeO (truantref02_Word.j0 k y0 y1) (truantref02_Word.j0 (k + 1) y0 y1)) ∧ (∀ y0 y1, LeO (truantref02_Word.l0 k y0 y1) (truantref02_Word.l0 (k + 1) y0 y1))
 | 0 => ⟨fun _ _ r h => by simp [truantref02_Word.j0] at h, fun _ _ r h => by simp [truantref02_Word.l0] at h⟩
 | k + 1 => by
  obtain ⟨ih0, ih1⟩ := truantref02_Word.mono_l k
  refine ⟨?_, ?_⟩
  ·intro y0 y1
   unfold truantref02_Word.j0
   repeat' first
   | (with_reducible exact ih0 _ _)
   | (with_reducible exact ih1 _ _)
   | (with_reducible exact LeO.refl _)
   | (with_reducible exact LeO.none _)
   | (with_reducible refine LeO.ite ?_ ?_)
   | (with_reducible refine LeO.bind ?_ (fun _ => ?_))
   | exact ih0 _ _
   | exact ih1 _ _
   | exact LeO.none _
   | refine LeO.ite ?_ ?_
   | refine LeO.bind ?_ (fun _ => ?_)
  ·intro y0 y1
   unfold truantref02_Word.l0
   repeat' first
   | (with_reducible exact ih0 _ _)
   | (with_reducible exact ih1 _ _)
   | (with_reducible exact LeO.refl _)
   | (with_reducible exact LeO.none _)
   | (with_reducible refine LeO.ite ?_ ?_)
   | (with_reducible refine LeO.bind ?_ (fun _ => ?_))
   | exact ih0 _ _
   | exact ih1 _ _
   | exact LeO.none _
   | refine LeO.ite ?_ ?_
   | refine LeO.bind ?_ (fun _ => ?_)
theorem truantref02_Word.mono : ∀ a0 k, LeO (truantref02_Word.f k a0) (truantref02_Word.f (k + 1) a0) := by
 intro a0 k
 obtain ⟨ih0, ih1⟩ := truantref02_Word.mono_l k
 unfold truantref02_Word.f
 repeat' first
   | (with_reducible exact ih0 _ _)
   | (with_reducible exact ih1 _ _)
   | (with_reducible exact LeO.refl _)
   | (with_reducible exact LeO.none _)
   | (with_reducible refine LeO.ite ?_ ?_)
   | (with_reducible refine LeO.bind ?_ (fun _ => ?_))
   | exact ih0 _ _
   | exact ih1 _ _
   | exact LeO.none _
   | refine LeO.ite ?_ ?_
   | refine LeO.bind ?_ (fun _ => ?_)
set_option maxHeartbeats 8000000 in
set_option maxRecDepth 100000 in
theorem truantref02_Word.calls (k : Nat) (a0 : ByteArray) (r : Bool) (w : World) (h : truantref02_Word.f k a0 = some r) :
  Calls Tryd.prog 46 #[.string a0] w fun e w' => e = .returned (.bool r) ∧ Below w.heap.size w w' := by
 have HB := Aside0.mk (Below.refl w.heap.size w)
 have H : (if (a0.size : Int) = 0 then (truantref02_Word.j0 k a0 true) else (if (a0.size : Int) > 12 then (truantref02_Word.j0 k a0 true) else (if 0 < (a0.size : Int) then ((truantref02_letter.f (bt a0 0)).bind fun t204 => (if t204 = true then ((truantref02_Key.f a0).bind fun t205 => (truantref02_Word.j0 k a0 t205)) else (truantref02_Word.j0 k a0 true))) else (none)))) = some r := h
 clear h
 have HC2 := Aside0.mk H
 clear H
 go_enter Tryd.func46, Tryd.ntmps46
 go_upto_region 1 with (fail)
 go_cut [21] (fun v21 wc => ∃ (kq : Nat) (x21_1 : Bool), v21 = .bool x21_1 ∧ Aside0 (truantref02_Word.j0 kq a0 x21_1 = some r) ∧ Aside0 (kq ≤ k) ∧ Aside0 (Below w.heap.size w wc))
 case first =>
  have H := HC2.out
  clear HC2
  by_cases c3 : (a0.size : Int) = 0
  ·rw [if_pos c3] at H
   have c3b0 : ((a0.size : Int) == 0) = true := beq_iff_eq.mpr c3
   have c3b1 : ((a0.size : Int) != 0) = false := bne_eq_false_iff_eq.mpr c3
   clear c3
   (first | rw [c3b0] | rw [c3b1] | rw [c3b4] | (simp only [i64_w, i32_w]; rw [c3b0]) | skip)
   have H' := Aside0.mk H
   clear H
   go_wp2
   go_meet
   case rel => exact ⟨_, (true), (by first | rfl | (simp; done) | (simp [*]; done)), H', ⟨by first | omega | exact Nat.le_refl _⟩, ⟨by repeat (first | (with_reducible first | exact HB.out | apply below_alloc | apply pw_below_drewN | apply below_drew1) | exact HB.out)⟩⟩
  ·rw [if_neg c3] at H
   have c3b0 : ((a0.size : Int) == 0) = false := beq_eq_false_iff_ne.mpr c3
   have c3b1 : ((a0.size : Int) != 0) = true := bne_iff_ne.mpr c3
   (first | rw [c3b0] | rw [c3b1] | rw [c3b4] | (simp only [i64_w, i32_w]; rw [c3b0]) | skip)
   by_cases c4 : (a0.size : Int) > 12
   ·rw [if_pos c4] at H
    have c4b0 : decide (12 < (a0.size : Int)) = true := decide_eq_true c4
    have c4b1 : decide (12 < a0.size) = true := decide_eq_true (by omega)
    clear c4
    have H' := Aside0.mk H
    clear H
    go_wp2
    go_meet
    case rel => exact ⟨_, (true), (by first | rfl | (simp; done) | (simp [*]; done)), H', ⟨by first | omega | exact Nat.le_refl _⟩, ⟨by repeat (first | (with_reducible first | exact HB.out | apply below_alloc | apply pw_below_drewN | apply below_drew1) | exact HB.out)⟩⟩
   ·rw [if_neg c4] at H
    have c4b0 : decide (12 < (a0.size : Int)) = false := decide_eq_false c4
    have c4b1 : decide (12 < a0.size) = false := decide_eq_false (by omega)
    clear c4
    by_cases c5 : 0 < (a0.size : Int)
    ·rw [if_pos c5] at H
     have c5b0 : decide (0 < (a0.size : Int)) = true := decide_eq_true c5
     have c5b1 : decide (0 < a0.size) = true := decide_eq_true (by omega)
     clear c5
     replace H := Option.bind_eq_some_iff.mp H
     obtain ⟨t204, A70, H⟩ := H
     replace H : (if t204 = true then ((truantref02_Key.f a0).bind fun t205 => (truantref02_Word.j0 k a0 t205)) else (truantref02_Word.j0 k a0 true)) = some r := H
     have A7 := Aside0.mk A70
     clear A70
     by_cases c8 : t204 = true
     ·subst c8
      have H1 : ((truantref02_Key.f a0).bind fun t205 => (truantref02_Word.j0 k a0 t205)) = some r := by rw [if_pos rfl] at H; exact H
      clear H
      have H := H1
      clear H1
      replace H := Option.bind_eq_some_iff.mp H
      obtain ⟨t205, A90, H⟩ := H
      replace H : (truantref02_Word.j0 k a0 t205) = some r := H
      have A9 := Aside0.mk A90
      clear A90
      have H' := Aside0.mk H
      clear H
      have p6 : 0 ≤ (0 : Int) := (by omega)
      have q6 : 0 < a0.size := (by have : (0 : Int) < (a0.size : Int) := of_decide_eq_true (by first | (with_reducible assumption) | assumption); omega)
      have hx6 : ∀ h : 0 < a0.size, ((a0[0]'h).toNat : Int) = bt a0 0 := bt_at a0 0
      clear p6
      have qi6 : (0 < (a0.size : Int)) = True := eq_true (of_decide_eq_true (by first | (with_reducible assumption) | assumption))
      replace q6 := eq_true q6
      go_wp2_with (first | (go_at_call 59; (with_reducible refine (truantref02_letter.calls (bt a0 0) true _ A7.out).mono ?_); rintro e w' ⟨rfl, ⟨nd, rfl⟩⟩) | (go_at_call 60; (with_reducible refine (truantref02_Key.calls a0 t205 _ A9.out).mono ?_); rintro e w10 ⟨rfl, hb⟩; have n0_ := Aside0.mk (below_step (by repeat (first | (with_reducible first | exact HB.out | apply below_alloc | apply pw_below_drewN | apply below_drew1) | exact HB.out)) hb); clear HB; have HB := n0_; clear n0_; (try clear hb); (try clear hb2); (try clear hk); (try clear hi)))
      go_meet
      case rel => exact ⟨_, (t205), (by first | rfl | (simp; done) | (simp [*]; done)), H', ⟨by first | omega | exact Nat.le_refl _⟩, ⟨by repeat (first | (with_reducible first | exact HB.out | apply below_alloc | apply pw_below_drewN | apply below_drew1) | exact HB.out)⟩⟩
     ·replace c8 := Bool.eq_false_iff.mpr c8
      subst c8
      have H1 : (truantref02_Word.j0 k a0 true) = some r := by rw [if_neg (show ¬ (false = true) by decide)] at H; exact H
      clear H
      have H := H1
      clear H1
      have H' := Aside0.mk H
      clear H
      have p6 : 0 ≤ (0 : Int) := (by omega)
      have q6 : 0 < a0.size := (by have : (0 : Int) < (a0.size : Int) := of_decide_eq_true (by first | (with_reducible assumption) | assumption); omega)
      have hx6 : ∀ h : 0 < a0.size, ((a0[0]'h).toNat : Int) = bt a0 0 := bt_at a0 0
      clear p6
      have qi6 : (0 < (a0.size : Int)) = True := eq_true (of_decide_eq_true (by first | (with_reducible assumption) | assumption))
      replace q6 := eq_true q6
      go_wp2_with (first | (go_at_call 59; (with_reducible refine (truantref02_letter.calls (bt a0 0) false _ A7.out).mono ?_); rintro e w' ⟨rfl, ⟨nd, rfl⟩⟩))
      go_meet
      case rel => exact ⟨_, (true), (by first | rfl | (simp; done) | (simp [*]; done)), H', ⟨by first | omega | exact Nat.le_refl _⟩, ⟨by repeat (first | (with_reducible first | exact HB.out | apply below_alloc | apply pw_below_drewN | apply below_drew1) | exact HB.out)⟩⟩
    ·rw [if_neg c5] at H
     exact absurd H (by simp)
 case rest =>
  clear HC2
  try clear p2
  try clear c3
  try clear c3b0
  try clear c3b1
  try clear c4
  try clear c4b0
  try clear c4b1
  try clear c5
  try clear c5b0
  try clear c5b1
  try clear p6
  try clear q6
  try clear hx6
  try clear qi6
  try clear c8
  try clear p6
  try clear q6
  obtain ⟨kq, x21_1, rfl, HA, HJ1, HB⟩ := hcut
  cases kq with
  | zero => exact absurd HA.out (by simp [truantref02_Word.j0])
  | succ kj1 =>
   have H := HA.out
   clear HA
   simp only [truantref02_Word.j0] at H
   by_cases c11 : x21_1 = true
   ·subst c11
    have H1 : (some false) = some r := by rw [if_pos rfl] at H; exact H
    clear H
    have H := H1
    clear H1
    obtain rfl := Option.some.inj H
    go_wp2
    go_ret
    exact ⟨by first | rfl | (simp [errW_none, errW_some] <;> rfl) | (simp [*, errW_none, errW_some] <;> rfl), by repeat (first | (with_reducible first | exact HB.out | apply below_alloc | apply pw_below_drewN | apply below_drew1) | exact HB.out)⟩
   ·replace c11 := Bool.eq_false_iff.mpr c11
    subst c11
    have H1 : (truantref02_Word.l0 kj1 a0 0) = some r := by rw [if_neg (show ¬ (false = true) by decide)] at H; exact H
    clear H
    have H := H1
    clear H1
    have H' := Aside0.mk H
    clear H
    go_wp2
    go_loopg [3] kj1 (fun kq v3 w' => ∃ (x3_2 : Int), v3 = .int .i64 x3_2 ∧ Aside0 (truantref02_Word.l0 kq a0 x3_2 = some r) ∧ Aside0 (kq ≤ kj1) ∧ Aside0 (Below w.heap.size w w'))
    case atStart => exact ⟨(0), (by first | rfl | (simp; done) | (simp [*]; done)), H', ⟨Nat.le_refl _⟩, ⟨by repeat (first | (with_reducible first | exact HB.out | apply below_alloc | apply pw_below_drewN | apply below_drew1) | exact HB.out)⟩⟩
    case round =>
     clear H'
     try clear c1
     try clear p2
     try clear c3
     try clear c3b0
     try clear c3b1
     try clear c4
     try clear c4b0
     try clear c4b1
     try clear c5
     try clear c5b0
     try clear c5b1
     try clear p6
     try clear q6
     try clear hx6
     try clear qi6
     try clear c8
     try clear c11
     try clear p2
     try clear p6
     try clear q6
     obtain ⟨x3_2, rfl, HA, HK2, HB⟩ := hrel
     cases gk with
     | zero => exact absurd HA.out (by simp [truantref02_Word.l0])
     | succ k2 =>
      have H := HA.out
      clear HA
      simp only [truantref02_Word.l0] at H
      by_cases c12 : x3_2 < (a0.size : Int)
      ·rw [if_pos c12] at H
       have c12b0 : decide (x3_2 < (a0.size : Int)) = true := decide_eq_true c12
       clear c12
       by_cases c13 : 0 ≤ x3_2
       ·rw [if_pos c13] at H
        have c13b0 : decide (0 ≤ x3_2) = true := decide_eq_true c13
        clear c13
        replace H := Option.bind_eq_some_iff.mp H
        obtain ⟨t206, A150, H⟩ := H
        replace H : (if t206 = true then (truantref02_Word.l0 k2 a0 (wrap64 (x3_2 + 1))) else ((truantref02_digit.f (bt a0 x3_2)).bind fun t207 => (if t207 = true then (truantref02_Word.l0 k2 a0 (wrap64 (x3_2 + 1))) else (some false)))) = some r := H
        have A15 := Aside0.mk A150
        clear A150
        by_cases c16 : t206 = true
        ·subst c16
         have H1 : (truantref02_Word.l0 k2 a0 (wrap64 (x3_2 + 1))) = some r := by rw [if_pos rfl] at H; exact H
         clear H
         have H := H1
         clear H1
         have H' := Aside0.mk H
         clear H
         have p14 : 0 ≤ (x3_2 : Int) := of_decide_eq_true (by first | (with_reducible assumption) | assumption)
         have q14 : x3_2 < (a0.size : Int) := of_decide_eq_true (by first | (with_reducible assumption) | assumption)
         have hx14 := bt_at a0 x3_2
         replace p14 := eq_true p14
         replace q14 := eq_true q14
         go_wp2_with (first | ((with_reducible refine gate_callee (f := 59) rfl ?_); refine goesL_ (some 31) rfl rfl Tryd.func59 (by kernel_rfl) rfl #[.int .u8 (bt a0 x3_2)] rfl (by (try simp only [List.map_toArray, List.map_cons, List.map_nil]); first | done | rfl | (simp only [List.length_drop, List.length_take]; rfl)) ?_; (with_reducible refine (truantref02_letter.calls (bt a0 x3_2) true _ A15.out).mono ?_); rintro e w' ⟨rfl, ⟨nd, rfl⟩⟩; refine ⟨_, rfl, ?_⟩))
         go_roundg k2
         case measure => have := HJ1.out; have := HK2.out; omega
         case rel => exact ⟨(wrap64 (x3_2 + 1)), (by first | rfl | (simp; done) | (simp [*]; done)), H', ⟨by have := HJ1.out; have := HK2.out; omega⟩, ⟨by repeat (first | (with_reducible first | exact HB.out | apply below_alloc | apply pw_below_drewN | apply below_drew1) | exact HB.out)⟩⟩
        ·replace c16 := Bool.eq_false_iff.mpr c16
         subst c16
         have H1 : ((truantref02_digit.f (bt a0 x3_2)).bind fun t207 => (if t207 = true then (truantref02_Word.l0 k2 a0 (wrap64 (x3_2 + 1))) else (some false))) = some r := by rw [if_neg (show ¬ (false = true) by decide)] at H; exact H
         clear H
         have H := H1
         clear H1
         replace H := Option.bind_eq_some_iff.mp H
         obtain ⟨t207, A180, H⟩ := H
         replace H : (if t207 = true then (truantref02_Word.l0 k2 a0 (wrap64 (x3_2 + 1))) else (some false)) = some r := H
         have A18 := Aside0.mk A180
         clear A180
         by_cases c19 : t207 = true
         ·subst c19
          have H1 : (truantref02_Word.l0 k2 a0 (wrap64 (x3_2 + 1))) = some r := by rw [if_pos rfl] at H; exact H
          clear H
          have H := H1
          clear H1
          have H' := Aside0.mk H
          clear H
          have p14 : 0 ≤ (x3_2 : Int) := of_decide_eq_true (by first | (with_reducible assumption) | assumption)
          have q14 : x3_2 < (a0.size : Int) := of_decide_eq_true (by first | (with_reducible assumption) | assumption)
          have hx14 := bt_at a0 x3_2
          replace p14 := eq_true p14
          replace q14 := eq_true q14
          go_wp2_with (first | ((with_reducible refine gate_callee (f := 59) rfl ?_); refine goesL_ (some 31) rfl rfl Tryd.func59 (by kernel_rfl) rfl #[.int .u8 (bt a0 x3_2)] rfl (by (try simp only [List.map_toArray, List.map_cons, List.map_nil]); first | done | rfl | (simp only [List.length_drop, List.length_take]; rfl)) ?_; (with_reducible refine (truantref02_letter.calls (bt a0 x3_2) false _ A15.out).mono ?_); rintro e w' ⟨rfl, ⟨nd, rfl⟩⟩; refine ⟨_, rfl, ?_⟩; have p17 : 0 ≤ (x3_2 : Int) := of_decide_eq_true (by first | (with_reducible assumption) | assumption); have q17 : x3_2 < (a0.size : Int) := of_decide_eq_true (by first | (with_reducible assumption) | assumption); have hx17 := bt_at a0 x3_2; replace p17 := eq_true p17; replace q17 := eq_true q17) | (go_at_call 61; (with_reducible refine (truantref02_digit.calls (bt a0 x3_2) true _ A18.out).mono ?_); rintro e w' ⟨rfl, ⟨nd, rfl⟩⟩))
          go_roundg k2
          case measure => have := HJ1.out; have := HK2.out; omega
          case rel => exact ⟨(wrap64 (x3_2 + 1)), (by first | rfl | (simp; done) | (simp [*]; done)), H', ⟨by have := HJ1.out; have := HK2.out; omega⟩, ⟨by repeat (first | (with_reducible first | exact HB.out | apply below_alloc | apply pw_below_drewN | apply below_drew1) | exact HB.out)⟩⟩
         ·replace c19 := Bool.eq_false_iff.mpr c19
          subst c19
          have H1 : (some false) = some r := by rw [if_neg (show ¬ (false = true) by decide)] at H; exact H
          clear H
          have H := H1
          clear H1
          obtain rfl := Option.some.inj H
          have p14 : 0 ≤ (x3_2 : Int) := of_decide_eq_true (by first | (with_reducible assumption) | assumption)
          have q14 : x3_2 < (a0.size : Int) := of_decide_eq_true (by first | (with_reducible assumption) | assumption)
          have hx14 := bt_at a0 x3_2
          replace p14 := eq_true p14
          replace q14 := eq_true q14
          go_wp2_with (first | ((with_reducible refine gate_callee (f := 59) rfl ?_); refine goesL_ (some 31) rfl rfl Tryd.func59 (by kernel_rfl) rfl #[.int .u8 (bt a0 x3_2)] rfl (by (try simp only [List.map_toArray, List.map_cons, List.map_nil]); first | done | rfl | (simp only [List.length_drop, List.length_take]; rfl)) ?_; (with_reducible refine (truantref02_letter.calls (bt a0 x3_2) false _ A15.out).mono ?_); rintro e w' ⟨rfl, ⟨nd, rfl⟩⟩; refine ⟨_, rfl, ?_⟩; have p17 : 0 ≤ (x3_2 : Int) := of_decide_eq_true (by first | (with_reducible assumption) | assumption); have q17 : x3_2 < (a0.size : Int) := of_decide_eq_true (by first | (with_reducible assumption) | assumption); have hx17 := bt_at a0 x3_2; replace p17 := eq_true p17; replace q17 := eq_true q17) | (go_at_call 61; (with_reducible refine (truantref02_digit.calls (bt a0 x3_2) false _ A18.out).mono ?_); rintro e w' ⟨rfl, ⟨nd, rfl⟩⟩))
          go_ret
          exact ⟨by first | rfl | (simp [errW_none, errW_some] <;> rfl) | (simp [*, errW_none, errW_some] <;> rfl), by repeat (first | (with_reducible first | exact HB.out | apply below_alloc | apply pw_below_drewN | apply below_drew1) | exact HB.out)⟩
       ·rw [if_neg c13] at H
        exact absurd H (by simp)
      ·rw [if_neg c12] at H
       have c12b0 : decide (x3_2 < (a0.size : Int)) = false := decide_eq_false c12
       clear c12
       obtain rfl := Option.some.inj H
       go_wp2
       go_ret
       exact ⟨by first | rfl | (simp [errW_none, errW_some] <;> rfl) | (simp [*, errW_none, errW_some] <;> rfl), by repeat (first | (with_reducible first | exact HB.out | apply below_alloc | apply pw_below_drewN | apply below_drew1) | exact HB.out)⟩
/-! ### truantref03_Elem: function 32 -/
def truantref03_Elem.f (k : Nat) (a0 : ByteArray) : Option (ByteArray) := if (a0.size : Int) < 2 then (some (⟨#[]⟩ : ByteArray)) else (if 0 < (a0.size : Int) then (if (bt a0 0) = 42 then (if 1 ≤ (a0.size : Int) then ((truantref02_Word.f k (a0.extract 1 a0.size)).bind fun t208 => (if t208 = true then (some (a0.extract 1 a0.size)) else (some (⟨#[]⟩ : ByteArray)))) else (none)) else (some (⟨#[]⟩ : ByteArray))) else (none))
theorem truantref03_Elem.mono : ∀ a0 k, LeO (truantref03_Elem.f k a0) (truantref03_Elem.f (k + 1) a0) := by
 intro a0 k
 unfold truantref03_Elem.f
 repeat' first
   | (with_reducible exact truantref02_Word.mono _ _)
   | (with_reducible exact LeO.refl _)
   | (with_reducible exact LeO.none _)
   | (with_reducible refine LeO.ite ?_ ?_)
   | (with_reducible refine LeO.bind ?_ (fun _ => ?_))
   | exact truantref02_Word.mono _ _
   | exact LeO.none _
   | refine LeO.ite ?_ ?_
   | refine LeO.bind ?_ (fun _ => ?_)
set_option maxHeartbeats 8000000 in
set_option maxRecDepth 100000 in
theorem truantref03_Elem.calls (k : Nat) (a0 : ByteArray) (r : ByteArray) (w : World) (h : truantref03_Elem.f k a0 = some r) :
  Calls Tryd.prog 32 #[.string a0] w fun e w' => e = .returned (.string r) ∧ Below w.heap.size w w' := by
 have HB := Aside0.mk (Below.refl w.heap.size w)
 have H : (if (a0.size : Int) < 2 then (some (⟨#[]⟩ : ByteArray)) else (if 0 < (a0.size : Int) then (if (bt a0 0) = 42 then (if 1 ≤ (a0.size : Int) then ((truantref02_Word.f k (a0.extract 1 a0.size)).bind fun t208 => (if t208 = true then (some (a0.extract 1 a0.size)) else (some (⟨#[]⟩ : ByteArray)))) else (none)) else (some (⟨#[]⟩ : ByteArray))) else (none))) = some r := h
 clear h
 by_cases c2 : (a0.size : Int) < 2
 ·rw [if_pos c2] at H
  have c2b0 : decide ((a0.size : Int) < 2) = true := decide_eq_true c2
  have c2b1 : decide (a0.size < 2) = true := decide_eq_true (by omega)
  clear c2
  obtain rfl := Option.some.inj H
  go_enter Tryd.func32, Tryd.ntmps32
  go_wp2
  go_ret
  exact ⟨by first | rfl | (simp [errW_none, errW_some] <;> rfl) | (simp [*, errW_none, errW_some] <;> rfl), by repeat (first | (with_reducible first | exact HB.out | apply below_alloc | apply pw_below_drewN | apply below_drew1) | exact HB.out)⟩
 ·rw [if_neg c2] at H
  have c2b0 : decide ((a0.size : Int) < 2) = false := decide_eq_false c2
  have c2b1 : decide (a0.size < 2) = false := decide_eq_false (by omega)
  clear c2
  by_cases c3 : 0 < (a0.size : Int)
  ·rw [if_pos c3] at H
   have c3b0 : decide (0 < (a0.size : Int)) = true := decide_eq_true c3
   have c3b1 : decide (0 < a0.size) = true := decide_eq_true (by omega)
   clear c3
   by_cases c5 : (bt a0 0) = 42
   ·rw [if_pos c5] at H
    have c5b0 : ((bt a0 0) == 42) = true := beq_iff_eq.mpr c5
    have c5b1 : ((bt a0 0) != 42) = false := bne_eq_false_iff_eq.mpr c5
    clear c5
    by_cases c6 : 1 ≤ (a0.size : Int)
    ·rw [if_pos c6] at H
     have c6b0 := eq_true c6
     have c6b1 : decide (1 ≤ (a0.size : Int)) = true := decide_eq_true c6
     clear c6
     replace H := Option.bind_eq_some_iff.mp H
     obtain ⟨t208, A70, H⟩ := H
     replace H : (if t208 = true then (some (a0.extract 1 a0.size)) else (some (⟨#[]⟩ : ByteArray))) = some r := H
     have A7 := Aside0.mk A70
     clear A70
     by_cases c8 : t208 = true
     ·subst c8
      have H1 : (some (a0.extract 1 a0.size)) = some r := by rw [if_pos rfl] at H; exact H
      clear H
      have H := H1
      clear H1
      have c9b0 := eq_true (of_decide_eq_true (by first | (with_reducible assumption) | assumption) : 1 ≤ (a0.size : Int))
      obtain rfl := Option.some.inj H
      have p4 : 0 ≤ (0 : Int) := (by omega)
      have q4 : 0 < a0.size := (by have : (0 : Int) < (a0.size : Int) := of_decide_eq_true (by first | (with_reducible assumption) | assumption); omega)
      have hx4 : ∀ h : 0 < a0.size, ((a0[0]'h).toNat : Int) = bt a0 0 := bt_at a0 0
      clear p4
      have qi4 : (0 < (a0.size : Int)) = True := eq_true (of_decide_eq_true (by first | (with_reducible assumption) | assumption))
      replace q4 := eq_true q4
      go_enter Tryd.func32, Tryd.ntmps32
      go_wp2_with (first | (go_at_call 46; (with_reducible refine (truantref02_Word.calls k (a0.extract 1 a0.size) true _ A7.out).mono ?_); rintro e w10 ⟨rfl, hb⟩; have n0_ := Aside0.mk (below_step (by repeat (first | (with_reducible first | exact HB.out | apply below_alloc | apply pw_below_drewN | apply below_drew1) | exact HB.out)) hb); clear HB; have HB := n0_; clear n0_; (try clear hb); (try clear hb2); (try clear hk); (try clear hi)))
      go_ret
      exact ⟨by first | rfl | (simp [errW_none, errW_some] <;> rfl) | (simp [*, errW_none, errW_some] <;> rfl), by repeat (first | (with_reducible first | exact HB.out | apply below_alloc | apply pw_below_drewN | apply below_drew1) | exact HB.out)⟩
     ·replace c8 := Bool.eq_false_iff.mpr c8
      subst c8
      have H1 : (some (⟨#[]⟩ : ByteArray)) = some r := by rw [if_neg (show ¬ (false = true) by decide)] at H; exact H
      clear H
      have H := H1
      clear H1
      obtain rfl := Option.some.inj H
      have p4 : 0 ≤ (0 : Int) := (by omega)
      have q4 : 0 < a0.size := (by have : (0 : Int) < (a0.size : Int) := of_decide_eq_true (by first | (with_reducible assumption) | assumption); omega)
      have hx4 : ∀ h : 0 < a0.size, ((a0[0]'h).toNat : Int) = bt a0 0 := bt_at a0 0
      clear p4
      have qi4 : (0 < (a0.size : Int)) = True := eq_true (of_decide_eq_true (by first | (with_reducible assumption) | assumption))
      replace q4 := eq_true q4
      go_enter Tryd.func32, Tryd.ntmps32
      go_wp2_with (first | (go_at_call 46; (with_reducible refine (truantref02_Word.calls k (a0.extract 1 a0.size) false _ A7.out).mono ?_); rintro e w11 ⟨rfl, hb⟩; have n0_ := Aside0.mk (below_step (by repeat (first | (with_reducible first | exact HB.out | apply below_alloc | apply pw_below_drewN | apply below_drew1) | exact HB.out)) hb); clear HB; have HB := n0_; clear n0_; (try clear hb); (try clear hb2); (try clear hk); (try clear hi)))
      go_ret
      exact ⟨by first | rfl | (simp [errW_none, errW_some] <;> rfl) | (simp [*, errW_none, errW_some] <;> rfl), by repeat (first | (with_reducible first | exact HB.out | apply below_alloc | apply pw_below_drewN | apply below_drew1) | exact HB.out)⟩
    ·rw [if_neg c6] at H
     exact absurd H (by simp)
   ·rw [if_neg c5] at H
    have c5b0 : ((bt a0 0) == 42) = false := beq_eq_false_iff_ne.mpr c5
    have c5b1 : ((bt a0 0) != 42) = true := bne_iff_ne.mpr c5
    obtain rfl := Option.some.inj H
    have p4 : 0 ≤ (0 : Int) := (by omega)
    have q4 : 0 < a0.size := (by have : (0 : Int) < (a0.size : Int) := of_decide_eq_true (by first | (with_reducible assumption) | assumption); omega)
    have hx4 : ∀ h : 0 < a0.size, ((a0[0]'h).toNat : Int) = bt a0 0 := bt_at a0 0
    clear p4
    have qi4 : (0 < (a0.size : Int)) = True := eq_true (of_decide_eq_true (by first | (with_reducible assumption) | assumption))
    replace q4 := eq_true q4
    go_enter Tryd.func32, Tryd.ntmps32
    go_wp2
    go_ret
    exact ⟨by first | rfl | (simp [errW_none, errW_some] <;> rfl) | (simp [*, errW_none, errW_some] <;> rfl), by repeat (first | (with_reducible first | exact HB.out | apply below_alloc | apply pw_below_drewN | apply below_drew1) | exact HB.out)⟩
  ·rw [if_neg c3] at H
   exact absurd H (by simp)
/-! ### truantref18_First: function 11 -/
mutual
def truantref18_First.j0 : Nat → List (S28) → List (S42) → Int → Bool → Int → Int → ByteArray → Option ((List (S42)))
 | 0, _, _, _, _, _, _, _ => none
 | k + 1, x0, x5, x6, x25, x210000, x210001, x210002 => if x25 = true then (some x5) else (truantref18_First.l0 k x0 x5 x6 0 x210000 x210001 x210002)
def truantref18_First.l0 : Nat → List (S28) → List (S42) → Int → Int → Int → Int → ByteArray → Option ((List (S42)))
 | 0, _, _, _, _, _, _, _ => none
 | k + 1, x0, x5, x6, x7, x210000, x210001, x210002 => if 0 ≤ x6 then (if x6 < (x0.length : Int) then (if x7 < (((rd_T28 x0 x6).f1).length : Int) then (if 0 ≤ x7 then ((truantref03_Elem.f k ((rd_T64 ((rd_T28 x0 x6).f1) x7).f1)).bind fun t217 => (if t217.toList = ([] : List UInt8) then (truantref18_First.l0 k x0 x5 x6 (wrap64 (x7 + 1)) x210000 x210001 x210002) else ((truantref03_Find.f k x0 t217).bind fun t218 => (if t218 ≥ 0 then (if x5.length < 1954687338268 then (truantref18_First.l0 k x0 (x5 ++ [(⟨(⟨x210000, x210001, x210002⟩ : S30), x7, (⟨x210000, x210001, t217⟩ : S30)⟩ : S42)]) x6 (wrap64 (x7 + 1)) x210000 x210001 x210002) else (none)) else (truantref18_First.l0 k x0 x5 x6 (wrap64 (x7 + 1)) x210000 x210001 x210002))))) else (none)) else (some x5)) else (none)) else (none)
end
def truantref18_First.f (k : Nat) (l0 : List (S28)) (a1_0 : Int) (a1_1 : Int) (a1_2 : ByteArray) : Option ((List (S42))) := (some (([] : List (S42)) : List (S42))).bind fun y210 => ((truantref03_Find.f k l0 a1_2).bind fun t213 => (if a1_0 < 2 then (truantref18_First.j0 k l0 y210 t213 true a1_0 a1_1 a1_2) else (if a1_0 > 4 then (truantref18_First.j0 k l0 y210 t213 true a1_0 a1_1 a1_2) else (truantref18_First.j0 k l0 y210 t213 (decide (t213 < 0)) a1_0 a1_1 a1_2))))
theorem truantref18_First.mono_l : ∀ k, (∀ y0 y1 y2 y3 y4 y5 y6, LeO (truantref18_First.j0 k y0 y1 y2 y3 y4 y5 y6) (truantref18_First.j0 (k + 1) y0 y1 y2 y3 y4 y5 y6)) ∧ (∀ y0 y1 y2 y3 y4 y5 y6, LeO (truantref18_First.l0 k y0 y1 y2 y3 y4 y5 y6) (truantref18_First.l0 (k + 1) y0 y1 y2 y3 y4 y5 y6))
 | 0 => ⟨fun _ _ _ _ _ _ _ r h => by simp [truantref18_First.j0] at h, fun _ _ _ _ _ _ _ r h => by simp [truantref18_First.l0] at h⟩
 | k + 1 => by
  obtain ⟨ih0, ih1⟩ := truantref18_First.mono_l k
  refine ⟨?_, ?_⟩
  ·intro y0 y1 y2 y3 y4 y5 y6
   unfold truantref18_First.j0
   repeat' first
   | (with_reducible exact ih0 _ _ _ _ _ _ _)
   | (with_reducible exact ih1 _ _ _ _ _ _ _)
   | (with_reducible exact truantref03_Elem.mono _ _)
   | (with_reducible exact truantref03_Find.mono _ _ _)
   | (with_reducible exact LeO.refl _)
   | (with_reducible exact LeO.none _)
   | (with_reducible refine LeO.ite ?_ ?_)
   | (with_reducible refine LeO.bind ?_ (fun _ => ?_))
   | exact ih0 _ _ _ _ _ _ _
   | exact ih1 _ _ _ _ _ _ _
   | exact truantref03_Elem.mono _ _
   | exact truantref03_Find.mono _ _ _
   | exact LeO.none _
   | refine LeO.ite ?_ ?_
   | refine LeO.bind ?_ (fun _ => ?_)
  ·intro y0 y1 y2 y3 y4 y5 y6
   unfold truantref18_First.l0
   repeat' first
   | (with_reducible exact ih0 _ _ _ _ _ _ _)
   | (with_reducible exact ih1 _ _ _ _ _ _ _)
   | (with_reducible exact truantref03_Elem.mono _ _)
   | (with_reducible exact truantref03_Find.mono _ _ _)
   | (with_reducible exact LeO.refl _)
   | (with_reducible exact LeO.none _)
   | (with_reducible refine LeO.ite ?_ ?_)
   | (with_reducible refine LeO.bind ?_ (fun _ => ?_))
   | exact ih0 _ _ _ _ _ _ _
   | exact ih1 _ _ _ _ _ _ _
   | exact truantref03_Elem.mono _ _
   | exact truantref03_Find.mono _ _ _
   | exact LeO.none _
   | refine LeO.ite ?_ ?_
   | refine LeO.bind ?_ (fun _ => ?_)
theorem truantref18_First.mono : ∀ a0 a1 a2 a3 k, LeO (truantref18_First.f k a0 a1 a2 a3) (truantref18_First.f (k + 1) a0 a1 a2 a3) := by
 intro a0 a1 a2 a3 k
 obtain ⟨ih0, ih1⟩ := truantref18_First.mono_l k
 unfold truantref18_First.f
 repeat' first
   | (with_reducible exact ih0 _ _ _ _ _ _ _)
   | (with_reducible exact ih1 _ _ _ _ _ _ _)
   | (with_reducible exact truantref03_Elem.mono _ _)
   | (with_reducible exact truantref03_Find.mono _ _ _)
   | (with_reducible exact LeO.refl _)
   | (with_reducible exact LeO.none _)
   | (with_reducible refine LeO.ite ?_ ?_)
   | (with_reducible refine LeO.bind ?_ (fun _ => ?_))
   | exact ih0 _ _ _ _ _ _ _
   | exact ih1 _ _ _ _ _ _ _
   | exact truantref03_Elem.mono _ _
   | exact truantref03_Find.mono _ _ _
   | exact LeO.none _
   | refine LeO.ite ?_ ?_
   | refine LeO.bind ?_ (fun _ => ?_)
set_option maxHeartbeats 8000000 in
set_option maxRecDepth 100000 in
theorem truantref18_First.calls (k : Nat) (A0 : Option Addr) (c0 : Nat) (l0 : List (S28)) (a1_0 : Int) (a1_1 : Int) (a1_2 : ByteArray) (r : List (S42)) (w : World) (hr0 : Kd.C k28 w A0 l0.length l0) (hc0 : l0.length ≤ c0) (h : truantref18_First.f k l0 a1_0 a1_1 a1_2 = some r) :
  Calls Tryd.prog 11 #[.slice A0 l0.length c0, .agg #[.int .i64 a1_0, .int .i64 a1_1, .string a1_2]] w fun e w' => ∃ v0_ : Value, e = .returned (v0_) ∧ Kd.R k42 42 w' w.heap.size (fun _ => True) v0_ r ∧ Below w.heap.size w w' := by
 have hu30 := Tryd.underlying30
 have hu42 := Tryd.underlying42
 have HR0 := Aside0.mk hr0
 have HC0 := Aside0.mk hc0
 clear hr0 hc0
 have HB := Aside0.mk (Below.refl w.heap.size w)
 have H : ((some (([] : List (S42)) : List (S42))).bind fun y210 => ((truantref03_Find.f k l0 a1_2).bind fun t213 => (if a1_0 < 2 then (truantref18_First.j0 k l0 y210 t213 true a1_0 a1_1 a1_2) else (if a1_0 > 4 then (truantref18_First.j0 k l0 y210 t213 true a1_0 a1_1 a1_2) else (truantref18_First.j0 k l0 y210 t213 (decide (t213 < 0)) a1_0 a1_1 a1_2))))) = some r := h
 clear h
 obtain ⟨y210, hy210⟩ : ∃ y_ : List (S42), y_ = (([] : List (S42))) := ⟨_, rfl⟩
 replace H : ((truantref03_Find.f k l0 a1_2).bind fun t213 => (if a1_0 < 2 then (truantref18_First.j0 k l0 y210 t213 true a1_0 a1_1 a1_2) else (if a1_0 > 4 then (truantref18_First.j0 k l0 y210 t213 true a1_0 a1_1 a1_2) else (truantref18_First.j0 k l0 y210 t213 (decide (t213 < 0)) a1_0 a1_1 a1_2)))) = some r := by first | (rw [hy210]; with_reducible exact H) | (have H2_ := (Option.bind_some _ _).symm.trans H; rw [hy210]; with_reducible exact H2_) | (have H2_ := (Option.bind_some _ _).symm.trans H; with_reducible exact H2_) | with_reducible exact H | (rw [hy210]; exact H) | exact H
 have Ny210 := Aside0.mk hy210
 clear hy210
 replace H := Option.bind_eq_some_iff.mp H
 obtain ⟨t213, A30, H⟩ := H
 replace H : (if a1_0 < 2 then (truantref18_First.j0 k l0 y210 t213 true a1_0 a1_1 a1_2) else (if a1_0 > 4 then (truantref18_First.j0 k l0 y210 t213 true a1_0 a1_1 a1_2) else (truantref18_First.j0 k l0 y210 t213 (decide (t213 < 0)) a1_0 a1_1 a1_2))) = some r := H
 have A3 := Aside0.mk A30
 clear A30
 have HC4 := Aside0.mk H
 clear H
 go_enter Tryd.func11, Tryd.ntmps11
 go_upto_region 3 with (first | ((with_reducible refine gate_dst (N := 3) rfl ?_); refine box_event ?hg (N := 3) ?hd (cs := #[.int .i64 a1_0, .int .i64 a1_1, .string a1_2]) (t := 30) ?hr ?_; (case hd => rfl); (case hg => rfl); (case hr => first | (go_simp; done) | (go_simp; rfl)); intro gb209 hg w5 hbox hb; have n0_ := Aside0.mk (below_step (by repeat (first | (with_reducible first | exact HB.out | apply below_alloc | apply pw_below_drewN | apply below_drew1) | exact HB.out)) hb); have n1_ := Aside0.mk (hbox); have n2_ := Aside0.mk ((by rw [hg]; exact (below_size (by repeat (first | (with_reducible first | exact HB.out | apply below_alloc | apply pw_below_drewN | apply below_drew1) | exact HB.out))) : w.heap.size ≤ gb209)); have n3_ := Aside0.mk ((by rw [hg]; exact (below_size (by repeat (first | (with_reducible first | exact HB.out | apply below_alloc | apply pw_below_drewN | apply below_drew1) | exact HB.out))) : w.heap.size ≤ gb209)); clear HB; have HB := n0_; have BK209 := n1_; have GW209 := n2_; have GE209 := n3_; clear n0_ n1_ n2_ n3_; clear hb hbox hg) | ((with_reducible refine gate_dst (N := 9) rfl ?_); refine Kd.R_lit k42 _ 42 ?hg (N := 9) ?hd (xs := ([] : List (S42))) (inner := []) (ok := fun _ => True) (okp := fun _ => True) ?hr ?hp (fun _ hk => hk) trivial (Below.refl _ _) (Nat.le_refl _) (by simp) ?_; (case hd => rfl); (case hg => rfl); (case hr => first | (go_simp; done) | (go_simp; rfl)); (case hp => exact (Reps.none _ _)); intro v211 w6 ho7 hb hg_ hnew_; clear hg_ hnew_; (first | rw [← Ny210.out] at ho7 | (simp only [Int.reduceToNat] at ho7; rw [← Ny210.out] at ho7)); have n0_ := Aside0.mk (Kd.R_lower ho7 (below_size (by repeat (first | (with_reducible first | exact HB.out | apply below_alloc | apply pw_below_drewN | apply below_drew1 | refine below_set ?_ GE209.out) | exact HB.out)))); have n1_ := Aside0.mk (blk_below (g := gb209) (o := .cells #[.int .i64 a1_0, .int .i64 a1_1, .string a1_2] 30 (0, 0)) (by (with_reducible repeat (first | refine blk_drewN ?_ _ | refine blk_drew ?_ | refine blk_alloc ?_ _)); exact BK209.out) hb); have n2_ := Aside0.mk (below_step (by repeat (first | (with_reducible first | exact HB.out | apply below_alloc | apply pw_below_drewN | apply below_drew1 | refine below_set ?_ GE209.out) | exact HB.out)) hb); clear BK209; clear HB; have HO212 := n0_; have BK209 := n1_; have HB := n2_; clear n0_ n1_ n2_; clear hb ho7; have hcz8_0 : w6.cell? ⟨gb209, 0, none⟩ = some (.int .i64 a1_0) := (blk_cell BK209.out 0).trans rfl; have hcz8_1 : w6.cell? ⟨gb209, 1, none⟩ = some (.int .i64 a1_1) := (blk_cell BK209.out 1).trans rfl; have hcz8_2 : w6.cell? ⟨gb209, 2, none⟩ = some (.string a1_2) := (blk_cell BK209.out 2).trans rfl; have hfz8_0 := blk_frozen BK209.out 0; have hfz8_1 := blk_frozen BK209.out 1; have hfz8_2 := blk_frozen BK209.out 2) | ((with_reducible refine gate_callee (f := 31) rfl ?_); refine goesL_ (some 13) rfl rfl Tryd.func31 (by kernel_rfl) rfl #[.slice A0 l0.length c0, .string a1_2] rfl (by (try simp only [List.map_toArray, List.map_cons, List.map_nil]); first | done | rfl | (simp only [List.length_drop, List.length_take]; rfl)) ?_; (with_reducible refine (truantref03_Find.calls k _ _ l0 a1_2 t213 _ ?side1 ?side2 A3.out).mono ?_); (case side1 => repeat (first | exact (Kd.C_below HR0.out HB.out) | (with_reducible refine Kd.C_alloc ?_ _) | (with_reducible refine Kd.C_drewN ?_ _) | (with_reducible refine Kd.C_drew ?_))); (case side2 => exact HC0.out); rintro e w' ⟨rfl, ⟨nd, rfl⟩⟩; refine ⟨_, rfl, ?_⟩))
 (try simp only [Act.put, List.setIfInBounds_toArray, List.set_cons_zero, List.set_cons_succ])
 go_cut [25] (fun v25 wc => ∃ (kq : Nat) (x25_3 : Bool), v25 = .bool x25_3 ∧ Aside0 (truantref18_First.j0 kq l0 y210 t213 x25_3 a1_0 a1_1 a1_2 = some r) ∧ Aside0 (kq ≤ k) ∧ Aside0 (Kd.R k42 42 wc w.heap.size (fun _ => True) v211 y210) ∧ Aside0 (wc.heap[gb209]? = some (.cells #[.int .i64 a1_0, .int .i64 a1_1, .string a1_2] 30 (0, 0))) ∧ Aside0 (Below w.heap.size w wc))
 case first =>
  have H := HC4.out
  clear HC4
  by_cases c9 : a1_0 < 2
  ·rw [if_pos c9] at H
   have c9b0 : decide (a1_0 < 2) = true := decide_eq_true c9
   clear c9
   (first | rw [c9b0] | rw [c9b1] | rw [c9b4] | (simp only [i64_w, i32_w]; rw [c9b0]) | skip)
   have H' := Aside0.mk H
   clear H
   have hcz10_0 : w6.cell? ⟨gb209, 0, none⟩ = some (.int .i64 a1_0) := (blk_cell BK209.out 0).trans rfl
   have hcz10_1 : w6.cell? ⟨gb209, 1, none⟩ = some (.int .i64 a1_1) := (blk_cell BK209.out 1).trans rfl
   have hcz10_2 : w6.cell? ⟨gb209, 2, none⟩ = some (.string a1_2) := (blk_cell BK209.out 2).trans rfl
   have hfz10_0 := blk_frozen BK209.out 0
   have hfz10_1 := blk_frozen BK209.out 1
   have hfz10_2 := blk_frozen BK209.out 2
   go_wp2
   go_meet
   case rel => exact ⟨_, (true), (by first | rfl | (simp; done) | (simp [*]; done)), H', ⟨by first | omega | exact Nat.le_refl _⟩, ⟨by (with_reducible repeat (first | apply Kd.R_alloc | apply Kd.R_drewN | apply Kd.R_drew)); exact HO212.out⟩, ⟨by (with_reducible repeat (first | refine blk_drewN ?_ _ | refine blk_drew ?_ | refine blk_alloc ?_ _)); exact BK209.out⟩, ⟨by repeat (first | (with_reducible first | exact HB.out | apply below_alloc | apply pw_below_drewN | apply below_drew1 | refine below_set ?_ GE209.out) | exact HB.out)⟩⟩
  ·rw [if_neg c9] at H
   have c9b0 : decide (a1_0 < 2) = false := decide_eq_false c9
   clear c9
   (first | rw [c9b0] | rw [c9b1] | rw [c9b4] | (simp only [i64_w, i32_w]; rw [c9b0]) | skip)
   by_cases c11 : a1_0 > 4
   ·rw [if_pos c11] at H
    have c11b0 : decide (4 < a1_0) = true := decide_eq_true c11
    clear c11
    have H' := Aside0.mk H
    clear H
    have hcz12_0 : w6.cell? ⟨gb209, 0, none⟩ = some (.int .i64 a1_0) := (blk_cell BK209.out 0).trans rfl
    have hcz12_1 : w6.cell? ⟨gb209, 1, none⟩ = some (.int .i64 a1_1) := (blk_cell BK209.out 1).trans rfl
    have hcz12_2 : w6.cell? ⟨gb209, 2, none⟩ = some (.string a1_2) := (blk_cell BK209.out 2).trans rfl
    have hfz12_0 := blk_frozen BK209.out 0
    have hfz12_1 := blk_frozen BK209.out 1
    have hfz12_2 := blk_frozen BK209.out 2
    go_wp2
    go_meet
    case rel => exact ⟨_, (true), (by first | rfl | (simp; done) | (simp [*]; done)), H', ⟨by first | omega | exact Nat.le_refl _⟩, ⟨by (with_reducible repeat (first | apply Kd.R_alloc | apply Kd.R_drewN | apply Kd.R_drew)); exact HO212.out⟩, ⟨by (with_reducible repeat (first | refine blk_drewN ?_ _ | refine blk_drew ?_ | refine blk_alloc ?_ _)); exact BK209.out⟩, ⟨by repeat (first | (with_reducible first | exact HB.out | apply below_alloc | apply pw_below_drewN | apply below_drew1 | refine below_set ?_ GE209.out) | exact HB.out)⟩⟩
   ·rw [if_neg c11] at H
    have c11b0 : decide (4 < a1_0) = false := decide_eq_false c11
    clear c11
    have H' := Aside0.mk H
    clear H
    have hcz13_0 : w6.cell? ⟨gb209, 0, none⟩ = some (.int .i64 a1_0) := (blk_cell BK209.out 0).trans rfl
    have hcz13_1 : w6.cell? ⟨gb209, 1, none⟩ = some (.int .i64 a1_1) := (blk_cell BK209.out 1).trans rfl
    have hcz13_2 : w6.cell? ⟨gb209, 2, none⟩ = some (.string a1_2) := (blk_cell BK209.out 2).trans rfl
    have hfz13_0 := blk_frozen BK209.out 0
    have hfz13_1 := blk_frozen BK209.out 1
    have hfz13_2 := blk_frozen BK209.out 2
    go_wp2
    go_meet
    case rel => exact ⟨_, (decide (t213 < 0)), (by first | rfl | (simp; done) | (simp [*]; done)), H', ⟨by first | omega | exact Nat.le_refl _⟩, ⟨by (with_reducible repeat (first | apply Kd.R_alloc | apply Kd.R_drewN | apply Kd.R_drew)); exact HO212.out⟩, ⟨by (with_reducible repeat (first | refine blk_drewN ?_ _ | refine blk_drew ?_ | refine blk_alloc ?_ _)); exact BK209.out⟩, ⟨by repeat (first | (with_reducible first | exact HB.out | apply below_alloc | apply pw_below_drewN | apply below_drew1 | refine below_set ?_ GE209.out) | exact HB.out)⟩⟩
 case rest =>
  clear HC4
  try clear c1
  try clear p2
  try clear c3
  try clear c9
  try clear c9b0
  try clear c11
  try clear c11b0
  try clear hcz10_0
  try clear hcz10_1
  try clear hcz10_2
  try clear hcz12_0
  try clear hcz12_1
  try clear hcz12_2
  try clear hcz13_0
  try clear hcz13_1
  try clear hcz13_2
  try clear hcz8_0
  try clear hcz8_1
  try clear hcz8_2
  try clear hfz10_0
  try clear hfz10_1
  try clear hfz10_2
  try clear hfz12_0
  try clear hfz12_1
  try clear hfz12_2
  try clear hfz13_0
  try clear hfz13_1
  try clear hfz13_2
  try clear hfz8_0
  try clear hfz8_1
  try clear hfz8_2
  obtain ⟨kq, x25_3, rfl, HA, HJ3, HO_5, BK209, HB⟩ := hcut
  cases kq with
  | zero => exact absurd HA.out (by simp [truantref18_First.j0])
  | succ kj3 =>
   have H := HA.out
   clear HA
   simp only [truantref18_First.j0] at H
   by_cases c14 : x25_3 = true
   ·subst c14
    have H1 : (some y210) = some r := by rw [if_pos rfl] at H; exact H
    clear H
    have H := H1
    clear H1
    obtain rfl := Option.some.inj H
    go_wp2
    go_ret
    exact ⟨_, by first | rfl | (simp [errW_none, errW_some] <;> rfl) | (simp [*, errW_none, errW_some] <;> rfl), by (with_reducible repeat (first | apply Kd.R_alloc | apply Kd.R_drewN | apply Kd.R_drew)); exact HO_5.out, by repeat (first | (with_reducible first | exact HB.out | apply below_alloc | apply pw_below_drewN | apply below_drew1 | refine below_set ?_ GE209.out) | exact HB.out)⟩
   ·replace c14 := Bool.eq_false_iff.mpr c14
    subst c14
    have H1 : (truantref18_First.l0 kj3 l0 y210 t213 0 a1_0 a1_1 a1_2) = some r := by rw [if_neg (show ¬ (false = true) by decide)] at H; exact H
    clear H
    have H := H1
    clear H1
    have H' := Aside0.mk H
    clear H
    go_wp2
    go_loopg [5, 7] kj3 (fun kq v5 v7 w' => ∃ (x5_2 : List (S42)) (x7_2 : Int), v7 = .int .i64 x7_2 ∧ Aside0 (truantref18_First.l0 kq l0 x5_2 t213 x7_2 a1_0 a1_1 a1_2 = some r) ∧ Aside0 (kq ≤ kj3) ∧ Aside0 (Kd.R k42 42 w' w.heap.size (fun _ => True) v5 x5_2) ∧ Aside0 (w'.heap[gb209]? = some (.cells #[.int .i64 a1_0, .int .i64 a1_1, .string a1_2] 30 (0, 0))) ∧ Aside0 (Below w.heap.size w w'))
    case atStart => exact ⟨(y210), (0), (by first | rfl | (simp; done) | (simp [*]; done)), H', ⟨Nat.le_refl _⟩, ⟨by (with_reducible repeat (first | apply Kd.R_alloc | apply Kd.R_drewN | apply Kd.R_drew)); exact HO_5.out⟩, ⟨by (with_reducible repeat (first | refine blk_drewN ?_ _ | refine blk_drew ?_ | refine blk_alloc ?_ _)); exact BK209.out⟩, ⟨by repeat (first | (with_reducible first | exact HB.out | apply below_alloc | apply pw_below_drewN | apply below_drew1 | refine below_set ?_ GE209.out) | exact HB.out)⟩⟩
    case round =>
     clear H'
     try clear c1
     try clear p2
     try clear c3
     try clear c9
     try clear c9b0
     try clear c11
     try clear c11b0
     try clear c14
     try clear hcz10_0
     try clear hcz10_1
     try clear hcz10_2
     try clear hcz12_0
     try clear hcz12_1
     try clear hcz12_2
     try clear hcz13_0
     try clear hcz13_1
     try clear hcz13_2
     try clear hcz8_0
     try clear hcz8_1
     try clear hcz8_2
     try clear hfz10_0
     try clear hfz10_1
     try clear hfz10_2
     try clear hfz12_0
     try clear hfz12_1
     try clear hfz12_2
     try clear hfz13_0
     try clear hfz13_1
     try clear hfz13_2
     try clear hfz8_0
     try clear hfz8_1
     try clear hfz8_2
     try clear p2
     obtain ⟨x5_2, x7_2, rfl, HA, HK2, HO_5, BK209, HB⟩ := hrel
     cases gk with
     | zero => exact absurd HA.out (by simp [truantref18_First.l0])
     | succ k2 =>
      have H := HA.out
      clear HA
      simp only [truantref18_First.l0] at H
      by_cases c15 : 0 ≤ t213
      ·rw [if_pos c15] at H
       have c15b0 : decide (0 ≤ t213) = true := decide_eq_true c15
       clear c15
       by_cases c16 : t213 < (l0.length : Int)
       ·rw [if_pos c16] at H
        have c16b0 : decide (t213 < (l0.length : Int)) = true := decide_eq_true c16
        clear c16
        by_cases c17 : x7_2 < (((rd_T28 l0 t213).f1).length : Int)
        ·rw [if_pos c17] at H
         have c17b0 : decide (x7_2 < (((rd_T28 l0 t213).f1).length : Int)) = true := decide_eq_true c17
         clear c17
         by_cases c18 : 0 ≤ x7_2
         ·rw [if_pos c18] at H
          have c18b0 : decide (0 ≤ x7_2) = true := decide_eq_true c18
          clear c18
          replace H := Option.bind_eq_some_iff.mp H
          obtain ⟨t217, A190, H⟩ := H
          replace H : (if t217.toList = ([] : List UInt8) then (truantref18_First.l0 k2 l0 x5_2 t213 (wrap64 (x7_2 + 1)) a1_0 a1_1 a1_2) else ((truantref03_Find.f k2 l0 t217).bind fun t218 => (if t218 ≥ 0 then (if x5_2.length < 1954687338268 then (truantref18_First.l0 k2 l0 (x5_2 ++ [(⟨(⟨a1_0, a1_1, a1_2⟩ : S30), x7_2, (⟨a1_0, a1_1, t217⟩ : S30)⟩ : S42)]) t213 (wrap64 (x7_2 + 1)) a1_0 a1_1 a1_2) else (none)) else (truantref18_First.l0 k2 l0 x5_2 t213 (wrap64 (x7_2 + 1)) a1_0 a1_1 a1_2)))) = some r := H
          have A19 := Aside0.mk A190
          clear A190
          by_cases c20 : t217.toList = ([] : List UInt8)
          ·rw [if_pos c20] at H
           have c20b0 : (t217.toList == ([] : List UInt8)) = true := beq_iff_eq.mpr c20
           try have c20b4 : (!(t217).toList.isEmpty) = false := by simpa using c20b0
           have c20b1 : (t217.toList != ([] : List UInt8)) = false := bne_eq_false_iff_eq.mpr c20
           clear c20
           have H' := Aside0.mk H
           clear H
           have p214 : 0 ≤ (t213 : Int) := of_decide_eq_true (by first | (with_reducible assumption) | assumption)
           have q214 : t213 < (l0.length : Int) := of_decide_eq_true (by first | (with_reducible assumption) | assumption)
           obtain ⟨ad214, A214_1, c214_1, e214, hx214_0, hx214_1, hl214_1, hi214_1⟩ := at_T28 HR0.out t213 p214 q214
           cases e214
           replace hx214_0 := (HB.out.cell (World.block_lt_of_cell? w _ hx214_0)).trans hx214_0
           replace hx214_1 := (HB.out.cell (World.block_lt_of_cell? w _ hx214_1)).trans hx214_1
           have HR214_1 := Aside0.mk hi214_1
           have HC214_1 := Aside0.mk hl214_1
           clear hi214_1 hl214_1
           replace p214 := eq_true p214
           replace q214 := eq_true q214
           have p215 : 0 ≤ (t213 : Int) := of_decide_eq_true (by first | (with_reducible assumption) | assumption)
           have q215 : t213 < (l0.length : Int) := of_decide_eq_true (by first | (with_reducible assumption) | assumption)
           obtain ⟨ad215, A215_1, c215_1, e215, hx215_0, hx215_1, hl215_1, hi215_1⟩ := at_T28 HR0.out t213 p215 q215
           obtain rfl : ad214 = ad215 := (by injection e215)
           replace hx215_0 := (HB.out.cell (World.block_lt_of_cell? w _ hx215_0)).trans hx215_0
           replace hx215_1 := (HB.out.cell (World.block_lt_of_cell? w _ hx215_1)).trans hx215_1
           have HR215_1 := Aside0.mk hi215_1
           have HC215_1 := Aside0.mk hl215_1
           clear hi215_1 hl215_1
           replace p215 := eq_true p215
           replace q215 := eq_true q215
           have ea_ := Option.some.inj (hx214_1.symm.trans hx215_1)
           injection ea_ with ea_ en_ ec_
           subst ea_
           subst ec_
           clear en_
           have p216 : 0 ≤ (x7_2 : Int) := of_decide_eq_true (by first | (with_reducible assumption) | assumption)
           have q216 : x7_2 < (((rd_T28 l0 t213).f1).length : Int) := of_decide_eq_true (by first | (with_reducible assumption) | assumption)
           obtain ⟨ad216, e216, hx216_0, hx216_1⟩ := at_T64 HR215_1.out x7_2 p216 q216
           cases e216
           replace hx216_0 := (HB.out.cell (World.block_lt_of_cell? w _ hx216_0)).trans hx216_0
           replace hx216_1 := (HB.out.cell (World.block_lt_of_cell? w _ hx216_1)).trans hx216_1
           replace p216 := eq_true p216
           replace q216 := eq_true q216
           go_wp2_with (first | ((with_reducible refine gate_callee (f := 32) rfl ?_); refine goesL_ (some 46) rfl rfl Tryd.func32 (by kernel_rfl) rfl #[.string ((rd_T64 ((rd_T28 l0 t213).f1) x7_2).f1)] rfl (by (try simp only [List.map_toArray, List.map_cons, List.map_nil]); first | done | rfl | (simp only [List.length_drop, List.length_take]; rfl)) ?_; (with_reducible refine (truantref03_Elem.calls k2 ((rd_T64 ((rd_T28 l0 t213).f1) x7_2).f1) t217 _ A19.out).mono ?_); rintro e w21 ⟨rfl, hb⟩; refine ⟨_, rfl, ?_⟩; have n0_ := Aside0.mk (Kd.R_below (by (with_reducible repeat (first | apply Kd.R_alloc | apply Kd.R_drewN | apply Kd.R_drew)); exact HO_5.out) hb); have n1_ := Aside0.mk (blk_below (g := gb209) (o := .cells #[.int .i64 a1_0, .int .i64 a1_1, .string a1_2] 30 (0, 0)) (by (with_reducible repeat (first | refine blk_drewN ?_ _ | refine blk_drew ?_ | refine blk_alloc ?_ _)); exact BK209.out) hb); have n2_ := Aside0.mk (below_step (by repeat (first | (with_reducible first | exact HB.out | apply below_alloc | apply pw_below_drewN | apply below_drew1 | refine below_set ?_ GE209.out) | exact HB.out)) hb); clear HO_5; clear BK209; clear HB; have HO_5 := n0_; have BK209 := n1_; have HB := n2_; clear n0_ n1_ n2_; (try clear hb); (try clear hb2); (try clear hk); (try clear hi)))
           go_roundg k2
           case measure => have := HJ3.out; have := HK2.out; omega
           case rel => exact ⟨(x5_2), (wrap64 (x7_2 + 1)), (by first | rfl | (simp; done) | (simp [*]; done)), H', ⟨by have := HJ3.out; have := HK2.out; omega⟩, ⟨by (with_reducible repeat (first | apply Kd.R_alloc | apply Kd.R_drewN | apply Kd.R_drew)); exact HO_5.out⟩, ⟨by (with_reducible repeat (first | refine blk_drewN ?_ _ | refine blk_drew ?_ | refine blk_alloc ?_ _)); exact BK209.out⟩, ⟨by repeat (first | (with_reducible first | exact HB.out | apply below_alloc | apply pw_below_drewN | apply below_drew1 | refine below_set ?_ GE209.out) | exact HB.out)⟩⟩
          ·rw [if_neg c20] at H
           have c20b0 : (t217.toList == ([] : List UInt8)) = false := beq_eq_false_iff_ne.mpr c20
           try have c20b4 : (!(t217).toList.isEmpty) = true := by simpa using c20b0
           have c20b1 : (t217.toList != ([] : List UInt8)) = true := bne_iff_ne.mpr c20
           replace H := Option.bind_eq_some_iff.mp H
           obtain ⟨t218, A220, H⟩ := H
           replace H : (if t218 ≥ 0 then (if x5_2.length < 1954687338268 then (truantref18_First.l0 k2 l0 (x5_2 ++ [(⟨(⟨a1_0, a1_1, a1_2⟩ : S30), x7_2, (⟨a1_0, a1_1, t217⟩ : S30)⟩ : S42)]) t213 (wrap64 (x7_2 + 1)) a1_0 a1_1 a1_2) else (none)) else (truantref18_First.l0 k2 l0 x5_2 t213 (wrap64 (x7_2 + 1)) a1_0 a1_1 a1_2)) = some r := H
           have A22 := Aside0.mk A220
           clear A220
           by_cases c23 : t218 ≥ 0
           ·rw [if_pos c23] at H
            have c23b0 : decide (0 ≤ t218) = true := decide_eq_true c23
            clear c23
            by_cases c24 : x5_2.length < 1954687338268
            ·rw [if_pos c24] at H
             have LMc24 := Aside0.mk c24
             clear c24
             obtain ⟨y219, hy219⟩ : ∃ y_ : List (S42), y_ = (x5_2 ++ [(⟨(⟨a1_0, a1_1, a1_2⟩ : S30), x7_2, (⟨a1_0, a1_1, t217⟩ : S30)⟩ : S42)]) := ⟨_, rfl⟩
             replace H : (truantref18_First.l0 k2 l0 y219 t213 (wrap64 (x7_2 + 1)) a1_0 a1_1 a1_2) = some r := by first | (rw [hy219]; with_reducible exact H) | (have H2_ := (Option.bind_some _ _).symm.trans H; rw [hy219]; with_reducible exact H2_) | (have H2_ := (Option.bind_some _ _).symm.trans H; with_reducible exact H2_) | with_reducible exact H | (rw [hy219]; exact H) | exact H
             have Ny219 := Aside0.mk hy219
             clear hy219
             have H' := Aside0.mk H
             clear H
             have p214 : 0 ≤ (t213 : Int) := of_decide_eq_true (by first | (with_reducible assumption) | assumption)
             have q214 : t213 < (l0.length : Int) := of_decide_eq_true (by first | (with_reducible assumption) | assumption)
             obtain ⟨ad214, A214_1, c214_1, e214, hx214_0, hx214_1, hl214_1, hi214_1⟩ := at_T28 HR0.out t213 p214 q214
             cases e214
             replace hx214_0 := (HB.out.cell (World.block_lt_of_cell? w _ hx214_0)).trans hx214_0
             replace hx214_1 := (HB.out.cell (World.block_lt_of_cell? w _ hx214_1)).trans hx214_1
             have HR214_1 := Aside0.mk hi214_1
             have HC214_1 := Aside0.mk hl214_1
             clear hi214_1 hl214_1
             replace p214 := eq_true p214
             replace q214 := eq_true q214
             have p215 : 0 ≤ (t213 : Int) := of_decide_eq_true (by first | (with_reducible assumption) | assumption)
             have q215 : t213 < (l0.length : Int) := of_decide_eq_true (by first | (with_reducible assumption) | assumption)
             obtain ⟨ad215, A215_1, c215_1, e215, hx215_0, hx215_1, hl215_1, hi215_1⟩ := at_T28 HR0.out t213 p215 q215
             obtain rfl : ad214 = ad215 := (by injection e215)
             replace hx215_0 := (HB.out.cell (World.block_lt_of_cell? w _ hx215_0)).trans hx215_0
             replace hx215_1 := (HB.out.cell (World.block_lt_of_cell? w _ hx215_1)).trans hx215_1
             have HR215_1 := Aside0.mk hi215_1
             have HC215_1 := Aside0.mk hl215_1
             clear hi215_1 hl215_1
             replace p215 := eq_true p215
             replace q215 := eq_true q215
             have ea_ := Option.some.inj (hx214_1.symm.trans hx215_1)
             injection ea_ with ea_ en_ ec_
             subst ea_
             subst ec_
             clear en_
             have p216 : 0 ≤ (x7_2 : Int) := of_decide_eq_true (by first | (with_reducible assumption) | assumption)
             have q216 : x7_2 < (((rd_T28 l0 t213).f1).length : Int) := of_decide_eq_true (by first | (with_reducible assumption) | assumption)
             obtain ⟨ad216, e216, hx216_0, hx216_1⟩ := at_T64 HR215_1.out x7_2 p216 q216
             cases e216
             replace hx216_0 := (HB.out.cell (World.block_lt_of_cell? w _ hx216_0)).trans hx216_0
             replace hx216_1 := (HB.out.cell (World.block_lt_of_cell? w _ hx216_1)).trans hx216_1
             replace p216 := eq_true p216
             replace q216 := eq_true q216
             go_wp2_with (first | ((with_reducible refine gate_callee (f := 32) rfl ?_); refine goesL_ (some 46) rfl rfl Tryd.func32 (by kernel_rfl) rfl #[.string ((rd_T64 ((rd_T28 l0 t213).f1) x7_2).f1)] rfl (by (try simp only [List.map_toArray, List.map_cons, List.map_nil]); first | done | rfl | (simp only [List.length_drop, List.length_take]; rfl)) ?_; (with_reducible refine (truantref03_Elem.calls k2 ((rd_T64 ((rd_T28 l0 t213).f1) x7_2).f1) t217 _ A19.out).mono ?_); rintro e w25 ⟨rfl, hb⟩; refine ⟨_, rfl, ?_⟩; have n0_ := Aside0.mk (Kd.R_below (by (with_reducible repeat (first | apply Kd.R_alloc | apply Kd.R_drewN | apply Kd.R_drew)); exact HO_5.out) hb); have n1_ := Aside0.mk (blk_below (g := gb209) (o := .cells #[.int .i64 a1_0, .int .i64 a1_1, .string a1_2] 30 (0, 0)) (by (with_reducible repeat (first | refine blk_drewN ?_ _ | refine blk_drew ?_ | refine blk_alloc ?_ _)); exact BK209.out) hb); have n2_ := Aside0.mk (below_step (by repeat (first | (with_reducible first | exact HB.out | apply below_alloc | apply pw_below_drewN | apply below_drew1 | refine below_set ?_ GE209.out) | exact HB.out)) hb); clear HO_5; clear BK209; clear HB; have HO_5 := n0_; have BK209 := n1_; have HB := n2_; clear n0_ n1_ n2_; (try clear hb); (try clear hb2); (try clear hk); (try clear hi)) | (go_at_call 31; (with_reducible refine (truantref03_Find.calls k2 _ _ l0 t217 t218 _ ?side1 ?side2 A22.out).mono ?_); (case side1 => repeat (first | exact (Kd.C_below HR0.out HB.out) | (with_reducible refine Kd.C_alloc ?_ _) | (with_reducible refine Kd.C_drewN ?_ _) | (with_reducible refine Kd.C_drew ?_))); (case side2 => exact HC0.out); rintro e w' ⟨rfl, ⟨nd, rfl⟩⟩; have hcz26_0 : w25.cell? ⟨gb209, 0, none⟩ = some (.int .i64 a1_0) := (blk_cell BK209.out 0).trans rfl; have hcz26_1 : w25.cell? ⟨gb209, 1, none⟩ = some (.int .i64 a1_1) := (blk_cell BK209.out 1).trans rfl; have hcz26_2 : w25.cell? ⟨gb209, 2, none⟩ = some (.string a1_2) := (blk_cell BK209.out 2).trans rfl; have hfz26_0 := blk_frozen BK209.out 0; have hfz26_1 := blk_frozen BK209.out 1; have hfz26_2 := blk_frozen BK209.out 2) | ((with_reducible refine gate_builtin (b := .append) (xs := #[.tmp 55, .tmp 65]) rfl ?_); at_builtin; refine Kd.R_append k42 (w0 := w) w.heap.size rfl (.tmp 55) (.tmp 65) 34 42 (.agg #[(.int .i64 0), (.int .i64 0), (.string ⟨#[]⟩), (.int .i64 0), (.int .i64 0), (.int .i64 0), (.string ⟨#[]⟩)]) 72 rfl Tryd.underlying34 info42 rfl (by decide) (by omega) u5 x5_2 (⟨(⟨a1_0, a1_1, a1_2⟩ : S30), x7_2, (⟨a1_0, a1_1, t217⟩ : S30)⟩ : S42) [.int .i64 a1_0, .int .i64 a1_1, .string a1_2, .int .i64 x7_2, .int .i64 a1_0, .int .i64 a1_1, .string t217] (fun _ => True) (fun _ => False) rfl rfl ?aP (fun _ hk => hk.elim) ?aF ?aO ?aB ?aS ?aL ?_; (case aP => exact k42_mkM _ _ _ (⟨(⟨a1_0, a1_1, a1_2⟩ : S30), x7_2, (⟨a1_0, a1_1, t217⟩ : S30)⟩ : S42)); (case aB => exact (by repeat (first | (with_reducible first | exact HB.out | apply below_alloc | apply pw_below_drewN | apply below_drew1 | refine below_set ?_ GE209.out) | exact HB.out))); (case aF => exact (fun _ _ => trivial)); (case aO => exact (by (with_reducible repeat (first | apply Kd.R_alloc | apply Kd.R_drewN | apply Kd.R_drew)); exact HO_5.out)); (case aS => exact (below_size (by repeat (first | (with_reducible first | exact HB.out | apply below_alloc | apply pw_below_drewN | apply below_drew1 | refine below_set ?_ GE209.out) | exact HB.out)))); (case aL => have := LMc24.out; omega); intro v220 w27 ho hb hg hat; rw [← Ny219.out] at ho; have n0_ := Aside0.mk (blk_grown (g := gb209) (o := .cells #[.int .i64 a1_0, .int .i64 a1_1, .string a1_2] 30 (0, 0)) (by (with_reducible repeat (first | refine blk_drewN ?_ _ | refine blk_drew ?_ | refine blk_alloc ?_ _)); exact BK209.out) hg (Kd.R_ne HO_5.out BK209.out (by decide))); have n1_ := Aside0.mk (hb); have n2_ := Aside0.mk (ho); clear BK209; clear HB; clear HO_5; have BK209 := n0_; have HB := n1_; have HO221 := n2_; clear n0_ n1_ n2_; clear ho hb hg hat))
             go_roundg k2
             case measure => have := HJ3.out; have := HK2.out; omega
             case rel => exact ⟨(y219), (wrap64 (x7_2 + 1)), (by first | rfl | (simp; done) | (simp [*]; done)), H', ⟨by have := HJ3.out; have := HK2.out; omega⟩, ⟨by (with_reducible repeat (first | apply Kd.R_alloc | apply Kd.R_drewN | apply Kd.R_drew)); exact HO221.out⟩, ⟨by (with_reducible repeat (first | refine blk_drewN ?_ _ | refine blk_drew ?_ | refine blk_alloc ?_ _)); exact BK209.out⟩, ⟨by repeat (first | (with_reducible first | exact HB.out | apply below_alloc | apply pw_below_drewN | apply below_drew1 | refine below_set ?_ GE209.out) | exact HB.out)⟩⟩
            ·rw [if_neg c24] at H
             exact absurd H (by simp)
           ·rw [if_neg c23] at H
            have c23b0 : decide (0 ≤ t218) = false := decide_eq_false c23
            clear c23
            have H' := Aside0.mk H
            clear H
            have p214 : 0 ≤ (t213 : Int) := of_decide_eq_true (by first | (with_reducible assumption) | assumption)
            have q214 : t213 < (l0.length : Int) := of_decide_eq_true (by first | (with_reducible assumption) | assumption)
            obtain ⟨ad214, A214_1, c214_1, e214, hx214_0, hx214_1, hl214_1, hi214_1⟩ := at_T28 HR0.out t213 p214 q214
            cases e214
            replace hx214_0 := (HB.out.cell (World.block_lt_of_cell? w _ hx214_0)).trans hx214_0
            replace hx214_1 := (HB.out.cell (World.block_lt_of_cell? w _ hx214_1)).trans hx214_1
            have HR214_1 := Aside0.mk hi214_1
            have HC214_1 := Aside0.mk hl214_1
            clear hi214_1 hl214_1
            replace p214 := eq_true p214
            replace q214 := eq_true q214
            have p215 : 0 ≤ (t213 : Int) := of_decide_eq_true (by first | (with_reducible assumption) | assumption)
            have q215 : t213 < (l0.length : Int) := of_decide_eq_true (by first | (with_reducible assumption) | assumption)
            obtain ⟨ad215, A215_1, c215_1, e215, hx215_0, hx215_1, hl215_1, hi215_1⟩ := at_T28 HR0.out t213 p215 q215
            obtain rfl : ad214 = ad215 := (by injection e215)
            replace hx215_0 := (HB.out.cell (World.block_lt_of_cell? w _ hx215_0)).trans hx215_0
            replace hx215_1 := (HB.out.cell (World.block_lt_of_cell? w _ hx215_1)).trans hx215_1
            have HR215_1 := Aside0.mk hi215_1
            have HC215_1 := Aside0.mk hl215_1
            clear hi215_1 hl215_1
            replace p215 := eq_true p215
            replace q215 := eq_true q215
            have ea_ := Option.some.inj (hx214_1.symm.trans hx215_1)
            injection ea_ with ea_ en_ ec_
            subst ea_
            subst ec_
            clear en_
            have p216 : 0 ≤ (x7_2 : Int) := of_decide_eq_true (by first | (with_reducible assumption) | assumption)
            have q216 : x7_2 < (((rd_T28 l0 t213).f1).length : Int) := of_decide_eq_true (by first | (with_reducible assumption) | assumption)
            obtain ⟨ad216, e216, hx216_0, hx216_1⟩ := at_T64 HR215_1.out x7_2 p216 q216
            cases e216
            replace hx216_0 := (HB.out.cell (World.block_lt_of_cell? w _ hx216_0)).trans hx216_0
            replace hx216_1 := (HB.out.cell (World.block_lt_of_cell? w _ hx216_1)).trans hx216_1
            replace p216 := eq_true p216
            replace q216 := eq_true q216
            go_wp2_with (first | ((with_reducible refine gate_callee (f := 32) rfl ?_); refine goesL_ (some 46) rfl rfl Tryd.func32 (by kernel_rfl) rfl #[.string ((rd_T64 ((rd_T28 l0 t213).f1) x7_2).f1)] rfl (by (try simp only [List.map_toArray, List.map_cons, List.map_nil]); first | done | rfl | (simp only [List.length_drop, List.length_take]; rfl)) ?_; (with_reducible refine (truantref03_Elem.calls k2 ((rd_T64 ((rd_T28 l0 t213).f1) x7_2).f1) t217 _ A19.out).mono ?_); rintro e w28 ⟨rfl, hb⟩; refine ⟨_, rfl, ?_⟩; have n0_ := Aside0.mk (Kd.R_below (by (with_reducible repeat (first | apply Kd.R_alloc | apply Kd.R_drewN | apply Kd.R_drew)); exact HO_5.out) hb); have n1_ := Aside0.mk (blk_below (g := gb209) (o := .cells #[.int .i64 a1_0, .int .i64 a1_1, .string a1_2] 30 (0, 0)) (by (with_reducible repeat (first | refine blk_drewN ?_ _ | refine blk_drew ?_ | refine blk_alloc ?_ _)); exact BK209.out) hb); have n2_ := Aside0.mk (below_step (by repeat (first | (with_reducible first | exact HB.out | apply below_alloc | apply pw_below_drewN | apply below_drew1 | refine below_set ?_ GE209.out) | exact HB.out)) hb); clear HO_5; clear BK209; clear HB; have HO_5 := n0_; have BK209 := n1_; have HB := n2_; clear n0_ n1_ n2_; (try clear hb); (try clear hb2); (try clear hk); (try clear hi)) | (go_at_call 31; (with_reducible refine (truantref03_Find.calls k2 _ _ l0 t217 t218 _ ?side1 ?side2 A22.out).mono ?_); (case side1 => repeat (first | exact (Kd.C_below HR0.out HB.out) | (with_reducible refine Kd.C_alloc ?_ _) | (with_reducible refine Kd.C_drewN ?_ _) | (with_reducible refine Kd.C_drew ?_))); (case side2 => exact HC0.out); rintro e w' ⟨rfl, ⟨nd, rfl⟩⟩))
            go_roundg k2
            case measure => have := HJ3.out; have := HK2.out; omega
            case rel => exact ⟨(x5_2), (wrap64 (x7_2 + 1)), (by first | rfl | (simp; done) | (simp [*]; done)), H', ⟨by have := HJ3.out; have := HK2.out; omega⟩, ⟨by (with_reducible repeat (first | apply Kd.R_alloc | apply Kd.R_drewN | apply Kd.R_drew)); exact HO_5.out⟩, ⟨by (with_reducible repeat (first | refine blk_drewN ?_ _ | refine blk_drew ?_ | refine blk_alloc ?_ _)); exact BK209.out⟩, ⟨by repeat (first | (with_reducible first | exact HB.out | apply below_alloc | apply pw_below_drewN | apply below_drew1 | refine below_set ?_ GE209.out) | exact HB.out)⟩⟩
         ·rw [if_neg c18] at H
          exact absurd H (by simp)
        ·rw [if_neg c17] at H
         have c17b0 : decide (x7_2 < (((rd_T28 l0 t213).f1).length : Int)) = false := decide_eq_false c17
         clear c17
         obtain rfl := Option.some.inj H
         have p214 : 0 ≤ (t213 : Int) := of_decide_eq_true (by first | (with_reducible assumption) | assumption)
         have q214 : t213 < (l0.length : Int) := of_decide_eq_true (by first | (with_reducible assumption) | assumption)
         obtain ⟨ad214, A214_1, c214_1, e214, hx214_0, hx214_1, hl214_1, hi214_1⟩ := at_T28 HR0.out t213 p214 q214
         cases e214
         replace hx214_0 := (HB.out.cell (World.block_lt_of_cell? w _ hx214_0)).trans hx214_0
         replace hx214_1 := (HB.out.cell (World.block_lt_of_cell? w _ hx214_1)).trans hx214_1
         have HR214_1 := Aside0.mk hi214_1
         have HC214_1 := Aside0.mk hl214_1
         clear hi214_1 hl214_1
         replace p214 := eq_true p214
         replace q214 := eq_true q214
         go_wp2
         go_ret
         exact ⟨_, by first | rfl | (simp [errW_none, errW_some] <;> rfl) | (simp [*, errW_none, errW_some] <;> rfl), by (with_reducible repeat (first | apply Kd.R_alloc | apply Kd.R_drewN | apply Kd.R_drew)); exact HO_5.out, by repeat (first | (with_reducible first | exact HB.out | apply below_alloc | apply pw_below_drewN | apply below_drew1 | refine below_set ?_ GE209.out) | exact HB.out)⟩
       ·rw [if_neg c16] at H
        exact absurd H (by simp)
      ·rw [if_neg c15] at H
       exact absurd H (by simp)
/-! ### truantref01_Text: function 38 -/
mutual
def truantref01_Text.l0 : Nat → Int → ByteArray → Bool → Option (ByteArray)
 | 0, _, _, _ => none
 | k + 1, x0, x3, x4 => if x3.toList = ([] : List UInt8) then (truantref01_Text.j1 k x0 x3 x4 true) else (truantref01_Text.j1 k x0 x3 x4 (x0 != 0))
def truantref01_Text.j1 : Nat → Int → ByteArray → Bool → Bool → Option (ByteArray)
 | 0, _, _, _, _ => none
 | k + 1, x0, x3, x4, x13 => if x13 = true then (if (Int.tmod x0 10) < 0 then ((some (([(wrap64 (48 + (wrap64 (-(Int.tmod x0 10))))) % 256] : List Int) : List Int)).bind fun y222 => (if (strOfNums y222).size + x3.size ≤ 9223372036854775807 then (truantref01_Text.l0 k (wrap64 (Int.tdiv x0 10)) ((strOfNums y222) ++ x3) x4) else (none))) else ((some (([(wrap64 (48 + (Int.tmod x0 10))) % 256] : List Int) : List Int)).bind fun y225 => (if (strOfNums y225).size + x3.size ≤ 9223372036854775807 then (truantref01_Text.l0 k (wrap64 (Int.tdiv x0 10)) ((strOfNums y225) ++ x3) x4) else (none)))) else (if x4 = true then (if 1 + x3.size ≤ 9223372036854775807 then (some ((⟨#[45]⟩ : ByteArray) ++ x3)) else (none)) else (some x3))
end
def truantref01_Text.f (k : Nat) (a0 : Int) : Option (ByteArray) := truantref01_Text.l0 k a0 (⟨#[]⟩ : ByteArray) (decide (a0 < 0))
theorem truantref01_Text.mono_l : ∀ k, (∀ y0 y1 y2, LeO (truantref01_Text.l0 k y0 y1 y2) (truantref01_Text.l0 (k + 1) y0 y1 y2)) ∧ (∀ y0 y1 y2 y3, LeO (truantref01_Text.j1 k y0 y1 y2 y3) (truantref01_Text.j1 (k + 1) y0 y1 y2 y3))
 | 0 => ⟨fun _ _ _ r h => by simp [truantref01_Text.l0] at h, fun _ _ _ _ r h => by simp [truantref01_Text.j1] at h⟩
 | k + 1 => by
  obtain ⟨ih0, ih1⟩ := truantref01_Text.mono_l k
  refine ⟨?_, ?_⟩
  ·intro y0 y1 y2
   unfold truantref01_Text.l0
   repeat' first
   | (with_reducible exact ih0 _ _ _)
   | (with_reducible exact ih1 _ _ _ _)
   | (with_reducible exact LeO.refl _)
   | (with_reducible exact LeO.none _)
   | (with_reducible refine LeO.ite ?_ ?_)
   | (with_reducible refine LeO.bind ?_ (fun _ => ?_))
   | exact ih0 _ _ _
   | exact ih1 _ _ _ _
   | exact LeO.none _
   | refine LeO.ite ?_ ?_
   | refine LeO.bind ?_ (fun _ => ?_)
  ·intro y0 y1 y2 y3
   unfold truantref01_Text.j1
   repeat' first
   | (with_reducible exact ih0 _ _ _)
   | (with_reducible exact ih1 _ _ _ _)
   | (with_reducible exact LeO.refl _)
   | (with_reducible exact LeO.none _)
   | (with_reducible refine LeO.ite ?_ ?_)
   | (with_reducible refine LeO.bind ?_ (fun _ => ?_))
   | exact ih0 _ _ _
   | exact ih1 _ _ _ _
   | exact LeO.none _
   | refine LeO.ite ?_ ?_
   | refine LeO.bind ?_ (fun _ => ?_)
theorem truantref01_Text.mono : ∀ a0 k, LeO (truantref01_Text.f k a0) (truantref01_Text.f (k + 1) a0) := by
 intro a0 k
 obtain ⟨ih0, ih1⟩ := truantref01_Text.mono_l k
 unfold truantref01_Text.f
 repeat' first
   | (with_reducible exact ih0 _ _ _)
   | (with_reducible exact ih1 _ _ _ _)
   | (with_reducible exact LeO.refl _)
   | (with_reducible exact LeO.none _)
   | (with_reducible refine LeO.ite ?_ ?_)
   | (with_reducible refine LeO.bind ?_ (fun _ => ?_))
   | exact ih0 _ _ _
   | exact ih1 _ _ _ _
   | exact LeO.none _
   | refine LeO.ite ?_ ?_
   | refine LeO.bind ?_ (fun _ => ?_)
set_option maxHeartbeats 8000000 in
set_option maxRecDepth 100000 in
theorem truantref01_Text.calls (k : Nat) (a0 : Int) (r : ByteArray) (w : World) (h : truantref01_Text.f k a0 = some r) :
  Calls Tryd.prog 38 #[.int .i64 a0] w fun e w' => e = .returned (.string r) ∧ Below w.heap.size w w' := by
 have HB := Aside0.mk (Below.refl w.heap.size w)
 have H : (truantref01_Text.l0 k a0 (⟨#[]⟩ : ByteArray) (decide (a0 < 0))) = some r := h
 clear h
 have H' := Aside0.mk H
 clear H
 go_enter Tryd.func38, Tryd.ntmps38
 go_wp2
 go_loopg [0, 3] k (fun kq v0 v3 w' => ∃ (x0_1 : Int) (x3_1 : ByteArray), v0 = .int .i64 x0_1 ∧ v3 = .string x3_1 ∧ Aside0 (truantref01_Text.l0 kq x0_1 x3_1 (decide (a0 < 0)) = some r) ∧ Aside0 (kq ≤ k) ∧ Aside0 (Below w.heap.size w w'))
 case atStart => exact ⟨(a0), ((⟨#[]⟩ : ByteArray)), (by first | rfl | (simp; done) | (simp [*]; done)), (by first | rfl | (simp; done) | (simp [*]; done)), H', ⟨Nat.le_refl _⟩, ⟨by repeat (first | (with_reducible first | exact HB.out | apply below_alloc | apply pw_below_drewN | apply below_drew1) | exact HB.out)⟩⟩
 case round =>
  clear H'
  obtain ⟨x0_1, x3_1, rfl, rfl, HA, HK1, HB⟩ := hrel
  cases gk with
  | zero => exact absurd HA.out (by simp [truantref01_Text.l0])
  | succ k1 =>
   have H := HA.out
   clear HA
   simp only [truantref01_Text.l0] at H
   have HC2 := Aside0.mk H
   clear H
   go_upto_region 3 with (fail)
   go_cut [13] (fun v13 wc => ∃ (kq : Nat) (x13_1 : Bool), v13 = .bool x13_1 ∧ Aside0 (truantref01_Text.j1 kq x0_1 x3_1 (decide (a0 < 0)) x13_1 = some r) ∧ Aside0 (kq ≤ k1) ∧ Aside0 (Below w.heap.size w wc))
   case first =>
    have H := HC2.out
    clear HC2
    by_cases c3 : x3_1.toList = ([] : List UInt8)
    ·rw [if_pos c3] at H
     have c3b0 : (x3_1.toList == ([] : List UInt8)) = true := beq_iff_eq.mpr c3
     try have c3b4 : (!(x3_1).toList.isEmpty) = false := by simpa using c3b0
     have c3b1 : (x3_1.toList != ([] : List UInt8)) = false := bne_eq_false_iff_eq.mpr c3
     clear c3
     (first | rw [c3b0] | rw [c3b1] | rw [c3b4] | (simp only [i64_w, i32_w]; rw [c3b0]) | skip)
     have H' := Aside0.mk H
     clear H
     go_wp2
     go_meet
     case rel => exact ⟨_, (true), (by first | rfl | (simp; done) | (simp [*]; done)), H', ⟨by have := HK1.out; first | omega | exact Nat.le_refl _⟩, ⟨by repeat (first | (with_reducible first | exact HB.out | apply below_alloc | apply pw_below_drewN | apply below_drew1) | exact HB.out)⟩⟩
    ·rw [if_neg c3] at H
     have c3b0 : (x3_1.toList == ([] : List UInt8)) = false := beq_eq_false_iff_ne.mpr c3
     try have c3b4 : (!(x3_1).toList.isEmpty) = true := by simpa using c3b0
     have c3b1 : (x3_1.toList != ([] : List UInt8)) = true := bne_iff_ne.mpr c3
     (first | rw [c3b0] | rw [c3b1] | rw [c3b4] | (simp only [i64_w, i32_w]; rw [c3b0]) | skip)
     have H' := Aside0.mk H
     clear H
     go_wp2
     go_meet
     case rel => exact ⟨_, ((x0_1 != 0)), (by first | rfl | (simp; done) | (simp [*]; done)), H', ⟨by have := HK1.out; first | omega | exact Nat.le_refl _⟩, ⟨by repeat (first | (with_reducible first | exact HB.out | apply below_alloc | apply pw_below_drewN | apply below_drew1) | exact HB.out)⟩⟩
   case rest =>
    clear HC2
    try clear p2
    try clear c3
    try clear c3b0
    try clear c3b1
    obtain ⟨kq, x13_1, rfl, HA, HJ1, HB⟩ := hcut
    cases kq with
    | zero => exact absurd HA.out (by simp [truantref01_Text.j1])
    | succ kj1 =>
     have H := HA.out
     clear HA
     simp only [truantref01_Text.j1] at H
     by_cases c4 : x13_1 = true
     ·subst c4
      have H1 : (if (Int.tmod x0_1 10) < 0 then ((some (([(wrap64 (48 + (wrap64 (-(Int.tmod x0_1 10))))) % 256] : List Int) : List Int)).bind fun y222 => (if (strOfNums y222).size + x3_1.size ≤ 9223372036854775807 then (truantref01_Text.l0 kj1 (wrap64 (Int.tdiv x0_1 10)) ((strOfNums y222) ++ x3_1) (decide (a0 < 0))) else (none))) else ((some (([(wrap64 (48 + (Int.tmod x0_1 10))) % 256] : List Int) : List Int)).bind fun y225 => (if (strOfNums y225).size + x3_1.size ≤ 9223372036854775807 then (truantref01_Text.l0 kj1 (wrap64 (Int.tdiv x0_1 10)) ((strOfNums y225) ++ x3_1) (decide (a0 < 0))) else (none)))) = some r := by rw [if_pos rfl] at H; exact H
      clear H
      have H := H1
      clear H1
      by_cases c5 : (Int.tmod x0_1 10) < 0
      ·rw [if_pos c5] at H
       have c5b0 : decide ((Int.tmod x0_1 10) < 0) = true := decide_eq_true c5
       clear c5
       obtain ⟨y222, hy222⟩ : ∃ y_ : List Int, y_ = (([(wrap64 (48 + (wrap64 (-(Int.tmod x0_1 10))))) % 256] : List Int)) := ⟨_, rfl⟩
       replace H : (if (strOfNums y222).size + x3_1.size ≤ 9223372036854775807 then (truantref01_Text.l0 kj1 (wrap64 (Int.tdiv x0_1 10)) ((strOfNums y222) ++ x3_1) (decide (a0 < 0))) else (none)) = some r := by first | (rw [hy222]; with_reducible exact H) | (have H2_ := (Option.bind_some _ _).symm.trans H; rw [hy222]; with_reducible exact H2_) | (have H2_ := (Option.bind_some _ _).symm.trans H; with_reducible exact H2_) | with_reducible exact H | (rw [hy222]; exact H) | exact H
       have Ny222 := Aside0.mk hy222
       clear hy222
       by_cases c6 : (strOfNums y222).size + x3_1.size ≤ 9223372036854775807
       ·rw [if_pos c6] at H
        have c6b0 := eq_true c6
        have c6b1 : decide ((strOfNums y222).size + x3_1.size ≤ 9223372036854775807) = true := decide_eq_true c6
        try have c6b2 : (9223372036854775807 < (strOfNums y222).size + x3_1.size) = False := eq_false (Nat.not_lt.2 c6)
        have H' := Aside0.mk H
        clear H
        go_wp2_with (first | ((with_reducible refine gate_dst (N := 23) rfl ?_); refine Kd.R_lit (Kd.int .u8) _ 5 ?hg (N := 23) ?hd (xs := ([(wrap64 (48 + (wrap64 (-(Int.tmod x0_1 10))))) % 256] : List Int)) (inner := [.int .u8 ((wrap64 (48 + (wrap64 (-(Int.tmod x0_1 10))))) % 256)]) (ok := fun _ => True) (okp := fun _ => True) ?hr ?hp (fun _ hk => hk) trivial (Below.refl _ _) (Nat.le_refl _) (by simp) ?_; (case hd => rfl); (case hg => rfl); (case hr => first | (go_simp; done) | (go_simp; rfl)); (case hp => exact (Reps.one (show Kd.M (Kd.int .u8) _ _ _ ((wrap64 (48 + (wrap64 (-(Int.tmod x0_1 10))))) % 256) [.int .u8 ((wrap64 (48 + (wrap64 (-(Int.tmod x0_1 10))))) % 256)] from rfl) (Reps.none _ _))); intro v223 w7 ho8 hb hg_ hnew_; clear hg_ hnew_; (first | rw [← Ny222.out] at ho8 | (simp only [Int.reduceToNat] at ho8; rw [← Ny222.out] at ho8)); have n0_ := Aside0.mk (Kd.R_lower ho8 (below_size (by repeat (first | (with_reducible first | exact HB.out | apply below_alloc | apply pw_below_drewN | apply below_drew1) | exact HB.out)))); have n1_ := Aside0.mk (below_step (by repeat (first | (with_reducible first | exact HB.out | apply below_alloc | apply pw_below_drewN | apply below_drew1) | exact HB.out)) hb); clear HB; have HO224 := n0_; have HB := n1_; clear n0_ n1_; clear hb ho8; have hcv9 := own_string (P := Tryd.prog) Tryd.underlying90 Tryd.underlying5 Tryd.underlying9 (Kd.own_of_R HO224.out)))
        go_roundg kj1
        case measure => have := HK1.out; have := HJ1.out; omega
        case rel => exact ⟨(wrap64 (Int.tdiv x0_1 10)), ((strOfNums y222) ++ x3_1), (by first | rfl | (simp; done) | (simp [*]; done)), (by first | rfl | (simp; done) | (simp [*]; done)), H', ⟨by have := HK1.out; have := HJ1.out; omega⟩, ⟨by repeat (first | (with_reducible first | exact HB.out | apply below_alloc | apply pw_below_drewN | apply below_drew1) | exact HB.out)⟩⟩
       ·rw [if_neg c6] at H
        exact absurd H (by simp)
      ·rw [if_neg c5] at H
       have c5b0 : decide ((Int.tmod x0_1 10) < 0) = false := decide_eq_false c5
       clear c5
       obtain ⟨y225, hy225⟩ : ∃ y_ : List Int, y_ = (([(wrap64 (48 + (Int.tmod x0_1 10))) % 256] : List Int)) := ⟨_, rfl⟩
       replace H : (if (strOfNums y225).size + x3_1.size ≤ 9223372036854775807 then (truantref01_Text.l0 kj1 (wrap64 (Int.tdiv x0_1 10)) ((strOfNums y225) ++ x3_1) (decide (a0 < 0))) else (none)) = some r := by first | (rw [hy225]; with_reducible exact H) | (have H2_ := (Option.bind_some _ _).symm.trans H; rw [hy225]; with_reducible exact H2_) | (have H2_ := (Option.bind_some _ _).symm.trans H; with_reducible exact H2_) | with_reducible exact H | (rw [hy225]; exact H) | exact H
       have Ny225 := Aside0.mk hy225
       clear hy225
       by_cases c10 : (strOfNums y225).size + x3_1.size ≤ 9223372036854775807
       ·rw [if_pos c10] at H
        have c10b0 := eq_true c10
        have c10b1 : decide ((strOfNums y225).size + x3_1.size ≤ 9223372036854775807) = true := decide_eq_true c10
        try have c10b2 : (9223372036854775807 < (strOfNums y225).size + x3_1.size) = False := eq_false (Nat.not_lt.2 c10)
        have H' := Aside0.mk H
        clear H
        go_wp2_with (first | ((with_reducible refine gate_dst (N := 23) rfl ?_); refine Kd.R_lit (Kd.int .u8) _ 5 ?hg (N := 23) ?hd (xs := ([(wrap64 (48 + (Int.tmod x0_1 10))) % 256] : List Int)) (inner := [.int .u8 ((wrap64 (48 + (Int.tmod x0_1 10))) % 256)]) (ok := fun _ => True) (okp := fun _ => True) ?hr ?hp (fun _ hk => hk) trivial (Below.refl _ _) (Nat.le_refl _) (by simp) ?_; (case hd => rfl); (case hg => rfl); (case hr => first | (go_simp; done) | (go_simp; rfl)); (case hp => exact (Reps.one (show Kd.M (Kd.int .u8) _ _ _ ((wrap64 (48 + (Int.tmod x0_1 10))) % 256) [.int .u8 ((wrap64 (48 + (Int.tmod x0_1 10))) % 256)] from rfl) (Reps.none _ _))); intro v226 w11 ho12 hb hg_ hnew_; clear hg_ hnew_; (first | rw [← Ny225.out] at ho12 | (simp only [Int.reduceToNat] at ho12; rw [← Ny225.out] at ho12)); have n0_ := Aside0.mk (Kd.R_lower ho12 (below_size (by repeat (first | (with_reducible first | exact HB.out | apply below_alloc | apply pw_below_drewN | apply below_drew1) | exact HB.out)))); have n1_ := Aside0.mk (below_step (by repeat (first | (with_reducible first | exact HB.out | apply below_alloc | apply pw_below_drewN | apply below_drew1) | exact HB.out)) hb); clear HB; have HO227 := n0_; have HB := n1_; clear n0_ n1_; clear hb ho12; have hcv13 := own_string (P := Tryd.prog) Tryd.underlying90 Tryd.underlying5 Tryd.underlying9 (Kd.own_of_R HO227.out)))
        go_roundg kj1
        case measure => have := HK1.out; have := HJ1.out; omega
        case rel => exact ⟨(wrap64 (Int.tdiv x0_1 10)), ((strOfNums y225) ++ x3_1), (by first | rfl | (simp; done) | (simp [*]; done)), (by first | rfl | (simp; done) | (simp [*]; done)), H', ⟨by have := HK1.out; have := HJ1.out; omega⟩, ⟨by repeat (first | (with_reducible first | exact HB.out | apply below_alloc | apply pw_below_drewN | apply below_drew1) | exact HB.out)⟩⟩
       ·rw [if_neg c10] at H
        exact absurd H (by simp)
     ·replace c4 := Bool.eq_false_iff.mpr c4
      subst c4
      have H1 : (if (decide (a0 < 0)) = true then (if 1 + x3_1.size ≤ 9223372036854775807 then (some ((⟨#[45]⟩ : ByteArray) ++ x3_1)) else (none)) else (some x3_1)) = some r := by rw [if_neg (show ¬ (false = true) by decide)] at H; exact H
      clear H
      have H := H1
      clear H1
      by_cases c14 : (decide (a0 < 0)) = true
      ·rw [if_pos c14] at H
       have c14b0 : (decide (a0 < 0)) = true := c14
       have c14p := of_decide_eq_true c14
       clear c14
       by_cases c15 : 1 + x3_1.size ≤ 9223372036854775807
       ·rw [if_pos c15] at H
        have c15b0 := eq_true c15
        have c15b1 : decide (1 + x3_1.size ≤ 9223372036854775807) = true := decide_eq_true c15
        try have c15b2 : (9223372036854775807 < 1 + x3_1.size) = False := eq_false (Nat.not_lt.2 c15)
        obtain rfl := Option.some.inj H
        go_wp2
        go_ret
        exact ⟨by first | rfl | (simp [errW_none, errW_some] <;> rfl) | (simp [*, errW_none, errW_some] <;> rfl), by repeat (first | (with_reducible first | exact HB.out | apply below_alloc | apply pw_below_drewN | apply below_drew1) | exact HB.out)⟩
       ·rw [if_neg c15] at H
        exact absurd H (by simp)
      ·rw [if_neg c14] at H
       have c14b0 : (decide (a0 < 0)) = false := by simpa using c14
       have c14p := of_decide_eq_false c14b0
       clear c14
       obtain rfl := Option.some.inj H
       go_wp2
       go_ret
       exact ⟨by first | rfl | (simp [errW_none, errW_some] <;> rfl) | (simp [*, errW_none, errW_some] <;> rfl), by repeat (first | (with_reducible first | exact HB.out | apply below_alloc | apply pw_below_drewN | apply below_drew1) | exact HB.out)⟩
/-! ### truantref18_Text: function 14 -/
def truantref18_Text.f (k : Nat) (a0_0 : Int) (a0_1 : Int) (a0_2 : ByteArray) : Option (ByteArray) := if a0_0 = 1 then ((truantref01_Text.f k a0_1).bind fun t229 => (if 5 + t229.size ≤ 9223372036854775807 then (if ((⟨#[115, 105, 116, 101, 32]⟩ : ByteArray) ++ t229).size + 1 ≤ 9223372036854775807 then (if (((⟨#[115, 105, 116, 101, 32]⟩ : ByteArray) ++ t229) ++ (⟨#[32]⟩ : ByteArray)).size + a0_2.size ≤ 9223372036854775807 then (some ((((⟨#[115, 105, 116, 101, 32]⟩ : ByteArray) ++ t229) ++ (⟨#[32]⟩ : ByteArray)) ++ a0_2)) else (none)) else (none)) else (none))) else (if a0_0 = 2 then (if 6 + a0_2.size ≤ 9223372036854775807 then (some ((⟨#[111, 117, 116, 101, 114, 32]⟩ : ByteArray) ++ a0_2)) else (none)) else (if a0_0 = 3 then ((truantref01_Text.f k a0_1).bind fun t230 => (if 7 + t230.size ≤ 9223372036854775807 then (if ((⟨#[99, 97, 108, 108, 101, 101, 32]⟩ : ByteArray) ++ t230).size + 1 ≤ 9223372036854775807 then (if (((⟨#[99, 97, 108, 108, 101, 101, 32]⟩ : ByteArray) ++ t230) ++ (⟨#[32]⟩ : ByteArray)).size + a0_2.size ≤ 9223372036854775807 then (some ((((⟨#[99, 97, 108, 108, 101, 101, 32]⟩ : ByteArray) ++ t230) ++ (⟨#[32]⟩ : ByteArray)) ++ a0_2)) else (none)) else (none)) else (none))) else (if a0_0 = 4 then (if 6 + a0_2.size ≤ 9223372036854775807 then (some ((⟨#[101, 118, 101, 114, 121, 32]⟩ : ByteArray) ++ a0_2)) else (none)) else (some (⟨#[]⟩ : ByteArray)))))
theorem truantref18_Text.mono : ∀ a0 a1 a2 k, LeO (truantref18_Text.f k a0 a1 a2) (truantref18_Text.f (k + 1) a0 a1 a2) := by
 intro a0 a1 a2 k
 unfold truantref18_Text.f
 repeat' first
   | (with_reducible exact truantref01_Text.mono _ _)
   | (with_reducible exact LeO.refl _)
   | (with_reducible exact LeO.none _)
   | (with_reducible refine LeO.ite ?_ ?_)
   | (with_reducible refine LeO.bind ?_ (fun _ => ?_))
   | exact truantref01_Text.mono _ _
   | exact LeO.none _
   | refine LeO.ite ?_ ?_
   | refine LeO.bind ?_ (fun _ => ?_)
def truantref18_Text.T3 : Bool × List (List Nat × List Nat) := (true, [([], []), ([0], [0]), ([1], [1]), ([2], [2]), ([3], [3]), ([], []), ([5], [5]), ([4, 6], [4, 6]), ([7, 2, 0, 1, 2, 3, 4, 5, 6, 7], [7])])
def truantref18_Text.B3 : List Nat := [0, 1, 3, 7, 15, 0, 32, 127, 255]
theorem truantref18_Text.tab3 : rtab .any (opsOf Tryd.f14 3) = truantref18_Text.T3 := by kernel_rfl
theorem truantref18_Text.bits3 : waitsOk truantref18_Text.T3.2 truantref18_Text.B3 = true := by kernel_rfl
def truantref18_Text.T7 : Bool × List (List Nat × List Nat) := (true, [([], []), ([0], [0]), ([1], [1]), ([2], [2]), ([3], [3]), ([], []), ([5], [5]), ([4, 6], [4, 6]), ([7, 2, 0, 1, 2, 3, 4, 5, 6, 7], [7])])
def truantref18_Text.B7 : List Nat := [0, 1, 3, 7, 15, 0, 32, 127, 255]
theorem truantref18_Text.tab7 : rtab .any (opsOf Tryd.f14 7) = truantref18_Text.T7 := by kernel_rfl
theorem truantref18_Text.bits7 : waitsOk truantref18_Text.T7.2 truantref18_Text.B7 = true := by kernel_rfl
set_option maxHeartbeats 8000000 in
set_option maxRecDepth 100000 in
theorem truantref18_Text.calls (k : Nat) (a0_0 : Int) (a0_1 : Int) (a0_2 : ByteArray) (r : ByteArray) (w : World) (h : truantref18_Text.f k a0_0 a0_1 a0_2 = some r) :
  Calls Tryd.prog 14 #[.agg #[.int .i64 a0_0, .int .i64 a0_1, .string a0_2]] w fun e w' => e = .returned (.string r) ∧ Below w.heap.size w w' := by
 have hu30 := Tryd.underlying30
 have HB := Aside0.mk (Below.refl w.heap.size w)
 have H : (if a0_0 = 1 then ((truantref01_Text.f k a0_1).bind fun t229 => (if 5 + t229.size ≤ 9223372036854775807 then (if ((⟨#[115, 105, 116, 101, 32]⟩ : ByteArray) ++ t229).size + 1 ≤ 9223372036854775807 then (if (((⟨#[115, 105, 116, 101, 32]⟩ : ByteArray) ++ t229) ++ (⟨#[32]⟩ : ByteArray)).size + a0_2.size ≤ 9223372036854775807 then (some ((((⟨#[115, 105, 116, 101, 32]⟩ : ByteArray) ++ t229) ++ (⟨#[32]⟩ : ByteArray)) ++ a0_2)) else (none)) else (none)) else (none))) else (if a0_0 = 2 then (if 6 + a0_2.size ≤ 9223372036854775807 then (some ((⟨#[111, 117, 116, 101, 114, 32]⟩ : ByteArray) ++ a0_2)) else (none)) else (if a0_0 = 3 then ((truantref01_Text.f k a0_1).bind fun t230 => (if 7 + t230.size ≤ 9223372036854775807 then (if ((⟨#[99, 97, 108, 108, 101, 101, 32]⟩ : ByteArray) ++ t230).size + 1 ≤ 9223372036854775807 then (if (((⟨#[99, 97, 108, 108, 101, 101, 32]⟩ : ByteArray) ++ t230) ++ (⟨#[32]⟩ : ByteArray)).size + a0_2.size ≤ 9223372036854775807 then (some ((((⟨#[99, 97, 108, 108, 101, 101, 32]⟩ : ByteArray) ++ t230) ++ (⟨#[32]⟩ : ByteArray)) ++ a0_2)) else (none)) else (none)) else (none))) else (if a0_0 = 4 then (if 6 + a0_2.size ≤ 9223372036854775807 then (some ((⟨#[101, 118, 101, 114, 121, 32]⟩ : ByteArray) ++ a0_2)) else (none)) else (some (⟨#[]⟩ : ByteArray)))))) = some r := h
 clear h
 by_cases c2 : a0_0 = 1
 ·rw [if_pos c2] at H
  have c2b0 : (a0_0 == 1) = true := beq_iff_eq.mpr c2
  have c2b1 : (a0_0 != 1) = false := bne_eq_false_iff_eq.mpr c2
  clear c2
  replace H := Option.bind_eq_some_iff.mp H
  obtain ⟨t229, A30, H⟩ := H
  replace H : (if 5 + t229.size ≤ 9223372036854775807 then (if ((⟨#[115, 105, 116, 101, 32]⟩ : ByteArray) ++ t229).size + 1 ≤ 9223372036854775807 then (if (((⟨#[115, 105, 116, 101, 32]⟩ : ByteArray) ++ t229) ++ (⟨#[32]⟩ : ByteArray)).size + a0_2.size ≤ 9223372036854775807 then (some ((((⟨#[115, 105, 116, 101, 32]⟩ : ByteArray) ++ t229) ++ (⟨#[32]⟩ : ByteArray)) ++ a0_2)) else (none)) else (none)) else (none)) = some r := H
  have A3 := Aside0.mk A30
  clear A30
  by_cases c4 : 5 + t229.size ≤ 9223372036854775807
  ·rw [if_pos c4] at H
   have c4b0 := eq_true c4
   have c4b1 : decide (5 + t229.size ≤ 9223372036854775807) = true := decide_eq_true c4
   try have c4b2 : (9223372036854775807 < 5 + t229.size) = False := eq_false (Nat.not_lt.2 c4)
   by_cases c5 : ((⟨#[115, 105, 116, 101, 32]⟩ : ByteArray) ++ t229).size + 1 ≤ 9223372036854775807
   ·rw [if_pos c5] at H
    have c5b0 := eq_true c5
    have c5b1 : decide (((⟨#[115, 105, 116, 101, 32]⟩ : ByteArray) ++ t229).size + 1 ≤ 9223372036854775807) = true := decide_eq_true c5
    try have c5b2 : (9223372036854775807 < ((⟨#[115, 105, 116, 101, 32]⟩ : ByteArray) ++ t229).size + 1) = False := eq_false (Nat.not_lt.2 c5)
    try have c5b3 : (9223372036854775807 < 5 + t229.size + 1) = False := eq_false (Nat.not_lt.2 (by have h_ := c5; simp only [ByteArray.size_append] at h_; exact h_))
    by_cases c6 : (((⟨#[115, 105, 116, 101, 32]⟩ : ByteArray) ++ t229) ++ (⟨#[32]⟩ : ByteArray)).size + a0_2.size ≤ 9223372036854775807
    ·rw [if_pos c6] at H
     have c6b0 := eq_true c6
     have c6b1 : decide ((((⟨#[115, 105, 116, 101, 32]⟩ : ByteArray) ++ t229) ++ (⟨#[32]⟩ : ByteArray)).size + a0_2.size ≤ 9223372036854775807) = true := decide_eq_true c6
     try have c6b2 : (9223372036854775807 < (((⟨#[115, 105, 116, 101, 32]⟩ : ByteArray) ++ t229) ++ (⟨#[32]⟩ : ByteArray)).size + a0_2.size) = False := eq_false (Nat.not_lt.2 c6)
     try have c6b3 : (9223372036854775807 < 5 + t229.size + 1 + a0_2.size) = False := eq_false (Nat.not_lt.2 (by have h_ := c6; simp only [ByteArray.size_append] at h_; exact h_))
     obtain rfl := Option.some.inj H
     go_enter Tryd.func14, Tryd.ntmps14
     try go_wp2_with (first | ((with_reducible refine gate_dst (N := 1) rfl ?_); refine box_event ?hg (N := 1) ?hd (cs := #[.int .i64 a0_0, .int .i64 a0_1, .string a0_2]) (t := 30) ?hr ?_; (case hd => rfl); (case hg => rfl); (case hr => first | (go_simp; done) | (go_simp; rfl)); intro gb228 hg w7 hbox hb; have n0_ := Aside0.mk (below_step (by repeat (first | (with_reducible first | exact HB.out | apply below_alloc | apply pw_below_drewN | apply below_drew1) | exact HB.out)) hb); have n1_ := Aside0.mk (hbox); have n2_ := Aside0.mk ((by rw [hg]; exact (below_size (by repeat (first | (with_reducible first | exact HB.out | apply below_alloc | apply pw_below_drewN | apply below_drew1) | exact HB.out))) : w.heap.size ≤ gb228)); have n3_ := Aside0.mk ((by rw [hg]; exact (below_size (by repeat (first | (with_reducible first | exact HB.out | apply below_alloc | apply pw_below_drewN | apply below_drew1) | exact HB.out))) : w.heap.size ≤ gb228)); clear HB; have HB := n0_; have BK228 := n1_; have GW228 := n2_; have GE228 := n3_; clear n0_ n1_ n2_ n3_; clear hb hbox hg; have hcz8_0 : w7.cell? ⟨gb228, 0, none⟩ = some (.int .i64 a0_0) := (blk_cell BK228.out 0).trans rfl; have hcz8_1 : w7.cell? ⟨gb228, 1, none⟩ = some (.int .i64 a0_1) := (blk_cell BK228.out 1).trans rfl; have hcz8_2 : w7.cell? ⟨gb228, 2, none⟩ = some (.string a0_2) := (blk_cell BK228.out 2).trans rfl; have hfz8_0 := blk_frozen BK228.out 0; have hfz8_1 := blk_frozen BK228.out 1; have hfz8_2 := blk_frozen BK228.out 2))
     have n0_ := Aside0.mk (blk_drew BK228.out)
     have n1_ := Aside0.mk (below_drew1 HB.out)
     clear BK228
     clear HB
     have BK228 := n0_
     have HB := n1_
     clear n0_ n1_
     refine start_ (n := 9) (S := fun w' => w'.cell? ⟨gb228, 0, none⟩ = some (.int .i64 a0_0) ∧ w'.cell? ⟨gb228, 1, none⟩ = some (.int .i64 a0_1) ∧ w'.cell? ⟨gb228, 2, none⟩ = some (.string a0_2)) (ds := []) #[false, false, false, false, false, false, false, false, false] (by kernel_rfl) rfl rfl ⟨(blk_cell BK228.out 0).trans rfl, (blk_cell BK228.out 1).trans rfl, (blk_cell BK228.out 2).trans rfl⟩ (fun hHeld => ?_); refine with_tabW truantref18_Text.tab3 truantref18_Text.bits3 (fun HT_ HW_ => ?_)
     generalize w7.drew = w9 at BK228 HB hHeld ⊢
     refine pure_ (i := 0) (N := some 7) (v := ?_) (a' := ?_) #[true, false, false, false, false, false, false, false, false] rfl rfl (any_of HT_.out (by kernel_rfl)) (fun _ _ _ h => h) (Or.inl ⟨by rfl, ?_⟩) ?_ ?_
     rotate_left
     ·intro w'
      go_simp
      with_reducible rfl
     rotate_left
     ·simp only [Act.put, List.setIfInBounds_toArray, List.set_cons_zero, List.set_cons_succ, i64_w, i32_w]
      rfl
     refine pure_ (i := 5) (N := some 12) (v := ?_) (a' := ?_) #[true, false, false, false, false, true, false, false, false] rfl rfl (any_of HT_.out (by kernel_rfl)) (fun _ _ _ h => h) (Or.inl ⟨by rfl, ?_⟩) ?_ ?_
     rotate_left
     ·intro w'
      go_simp
      with_reducible rfl
     rotate_left
     ·simp only [Act.put, List.setIfInBounds_toArray, List.set_cons_zero, List.set_cons_succ, i64_w, i32_w]
      rfl
     refine take_ (i := 1) (N := some 8) (v := ?_) (a' := ?_) #[true, true, false, false, false, true, false, false, false] rfl rfl (take_ofW HT_.out HW_.out (by kernel_rfl)) (fun _ _ _ h => h) (Or.inl ⟨by rfl, ?_⟩) hHeld ?_ ?_
     rotate_left
     ·rintro w' ⟨s0, s1, s2⟩
      go_simp
      with_reducible rfl
     rotate_left
     ·simp only [Act.put, List.setIfInBounds_toArray, List.set_cons_zero, List.set_cons_succ, i64_w, i32_w]
      rfl
     refine take_ (i := 6) (N := some 13) (v := ?_) (a' := ?_) #[true, true, false, false, false, true, true, false, false] rfl rfl (take_ofW HT_.out HW_.out (by kernel_rfl)) (fun _ _ _ h => h) (Or.inl ⟨by rfl, ?_⟩) hHeld ?_ ?_
     rotate_left
     ·rintro w' ⟨s0, s1, s2⟩
      go_simp
      with_reducible rfl
     rotate_left
     ·simp only [Act.put, List.setIfInBounds_toArray, List.set_cons_zero, List.set_cons_succ, i64_w, i32_w]
      rfl
     refine one_ (i := 2) (N := some 9) #[true, true, true, false, false, true, true, false, false] rfl rfl (one_of HT_.out (by kernel_rfl)) (by decide) (fun K hK => ?_)
     refine goes_ Tryd.func38 (by kernel_rfl) rfl #[.int .i64 a0_1] (by rfl) rfl rfl (by (try simp only [List.map_toArray, List.map_cons, List.map_nil]); first | done | rfl | (simp only [List.length_drop, List.length_take]; rfl)) ?_
     with_reducible refine (truantref01_Text.calls k a0_1 t229 _ A3.out).mono ?_
     rintro e w10 ⟨rfl, hb⟩
     refine ⟨_, rfl, ?_⟩
     have n0_ := Aside0.mk (blk_below (g := gb228) (o := .cells #[.int .i64 a0_0, .int .i64 a0_1, .string a0_2] 30 (0, 0)) (by (with_reducible repeat (first | refine blk_drewN ?_ _ | refine blk_drew ?_ | refine blk_alloc ?_ _)); exact BK228.out) hb)
     have n1_ := Aside0.mk (below_step (by repeat (first | (with_reducible first | exact HB.out | apply below_alloc | apply pw_below_drewN | apply below_drew1 | refine below_set ?_ GE228.out) | exact HB.out)) hb)
     clear BK228
     clear HB
     have BK228 := n0_
     have HB := n1_
     clear n0_ n1_
     (try clear hb)
     (try clear hb2)
     (try clear hk)
     (try clear hi)
     refine hK.out _ _ ⟨(blk_cell BK228.out 0).trans rfl, (blk_cell BK228.out 1).trans rfl, (blk_cell BK228.out 2).trans rfl⟩ (fun hHeld => ?_)
     clear hK K
     refine norm_ (a' := ?_) ?_ ?_
     rotate_left
     ·show Act.put _ (some 9) _ = _
      simp only [Act.put, List.setIfInBounds_toArray, List.set_cons_zero, List.set_cons_succ, i64_w, i32_w]
      rfl
     refine pure_ (i := 3) (N := some 10) (v := ?_) (a' := ?_) #[true, true, true, true, false, true, true, false, false] rfl rfl (any_of HT_.out (by kernel_rfl)) (fun _ _ _ h => h) (Or.inl ⟨by rfl, ?_⟩) ?_ ?_
     rotate_left
     ·intro w'
      go_simp
      with_reducible rfl
     rotate_left
     ·simp only [Act.put, List.setIfInBounds_toArray, List.set_cons_zero, List.set_cons_succ, i64_w, i32_w]
      rfl
     refine pure_ (i := 4) (N := some 11) (v := ?_) (a' := ?_) #[true, true, true, true, true, true, true, false, false] rfl rfl (any_of HT_.out (by kernel_rfl)) (fun _ _ _ h => h) (Or.inl ⟨by rfl, ?_⟩) ?_ ?_
     rotate_left
     ·intro w'
      go_simp
      with_reducible rfl
     rotate_left
     ·simp only [Act.put, List.setIfInBounds_toArray, List.set_cons_zero, List.set_cons_succ, i64_w, i32_w]
      rfl
     refine pure_ (i := 7) (N := some 14) (v := ?_) (a' := ?_) #[true, true, true, true, true, true, true, true, false] rfl rfl (any_of HT_.out (by kernel_rfl)) (fun _ _ _ h => h) (Or.inl ⟨by rfl, ?_⟩) ?_ ?_
     rotate_left
     ·intro w'
      go_simp
      with_reducible rfl
     rotate_left
     ·simp only [Act.put, List.setIfInBounds_toArray, List.set_cons_zero, List.set_cons_succ, i64_w, i32_w]
      rfl
     refine pure_ (i := 8) (N := some 2) (v := ?_) (a' := ?_) #[true, true, true, true, true, true, true, true, true] rfl rfl (any_of HT_.out (by kernel_rfl)) (fun _ _ _ h => h) (Or.inl ⟨by rfl, ?_⟩) ?_ ?_
     rotate_left
     ·intro w'
      go_simp
      with_reducible rfl
     rotate_left
     ·simp only [Act.put, List.setIfInBounds_toArray, List.set_cons_zero, List.set_cons_succ, i64_w, i32_w]
      rfl
     refine done_ (done_of HT_.out (by kernel_rfl)) ?_
     try go_wp2
     go_ret
     exact ⟨by first | rfl | (simp [errW_none, errW_some] <;> rfl) | (simp [*, errW_none, errW_some] <;> rfl), by repeat (first | (with_reducible first | exact HB.out | apply below_alloc | apply pw_below_drewN | apply below_drew1 | refine below_set ?_ GE228.out) | exact HB.out)⟩
    ·rw [if_neg c6] at H
     exact absurd H (by simp)
   ·rw [if_neg c5] at H
    exact absurd H (by simp)
  ·rw [if_neg c4] at H
   exact absurd H (by simp)
 ·rw [if_neg c2] at H
  have c2b0 : (a0_0 == 1) = false := beq_eq_false_iff_ne.mpr c2
  have c2b1 : (a0_0 != 1) = true := bne_iff_ne.mpr c2
  by_cases c11 : a0_0 = 2
  ·rw [if_pos c11] at H
   have c11b0 : (a0_0 == 2) = true := beq_iff_eq.mpr c11
   have c11b1 : (a0_0 != 2) = false := bne_eq_false_iff_eq.mpr c11
   clear c11
   by_cases c12 : 6 + a0_2.size ≤ 9223372036854775807
   ·rw [if_pos c12] at H
    have c12b0 := eq_true c12
    have c12b1 : decide (6 + a0_2.size ≤ 9223372036854775807) = true := decide_eq_true c12
    try have c12b2 : (9223372036854775807 < 6 + a0_2.size) = False := eq_false (Nat.not_lt.2 c12)
    obtain rfl := Option.some.inj H
    go_enter Tryd.func14, Tryd.ntmps14
    go_wp2_with (first | ((with_reducible refine gate_dst (N := 1) rfl ?_); refine box_event ?hg (N := 1) ?hd (cs := #[.int .i64 a0_0, .int .i64 a0_1, .string a0_2]) (t := 30) ?hr ?_; (case hd => rfl); (case hg => rfl); (case hr => first | (go_simp; done) | (go_simp; rfl)); intro gb228 hg w13 hbox hb; have n0_ := Aside0.mk (below_step (by repeat (first | (with_reducible first | exact HB.out | apply below_alloc | apply pw_below_drewN | apply below_drew1) | exact HB.out)) hb); have n1_ := Aside0.mk (hbox); have n2_ := Aside0.mk ((by rw [hg]; exact (below_size (by repeat (first | (with_reducible first | exact HB.out | apply below_alloc | apply pw_below_drewN | apply below_drew1) | exact HB.out))) : w.heap.size ≤ gb228)); have n3_ := Aside0.mk ((by rw [hg]; exact (below_size (by repeat (first | (with_reducible first | exact HB.out | apply below_alloc | apply pw_below_drewN | apply below_drew1) | exact HB.out))) : w.heap.size ≤ gb228)); clear HB; have HB := n0_; have BK228 := n1_; have GW228 := n2_; have GE228 := n3_; clear n0_ n1_ n2_ n3_; clear hb hbox hg; have hcz14_0 : w13.cell? ⟨gb228, 0, none⟩ = some (.int .i64 a0_0) := (blk_cell BK228.out 0).trans rfl; have hcz14_1 : w13.cell? ⟨gb228, 1, none⟩ = some (.int .i64 a0_1) := (blk_cell BK228.out 1).trans rfl; have hcz14_2 : w13.cell? ⟨gb228, 2, none⟩ = some (.string a0_2) := (blk_cell BK228.out 2).trans rfl; have hfz14_0 := blk_frozen BK228.out 0; have hfz14_1 := blk_frozen BK228.out 1; have hfz14_2 := blk_frozen BK228.out 2))
    go_ret
    exact ⟨by first | rfl | (simp [errW_none, errW_some] <;> rfl) | (simp [*, errW_none, errW_some] <;> rfl), by repeat (first | (with_reducible first | exact HB.out | apply below_alloc | apply pw_below_drewN | apply below_drew1 | refine below_set ?_ GE228.out) | exact HB.out)⟩
   ·rw [if_neg c12] at H
    exact absurd H (by simp)
  ·rw [if_neg c11] at H
   have c11b0 : (a0_0 == 2) = false := beq_eq_false_iff_ne.mpr c11
   have c11b1 : (a0_0 != 2) = true := bne_iff_ne.mpr c11
   by_cases c15 : a0_0 = 3
   ·rw [if_pos c15] at H
    have c15b0 : (a0_0 == 3) = true := beq_iff_eq.mpr c15
    have c15b1 : (a0_0 != 3) = false := bne_eq_false_iff_eq.mpr c15
    clear c15
    replace H := Option.bind_eq_some_iff.mp H
    obtain ⟨t230, A160, H⟩ := H
    replace H : (if 7 + t230.size ≤ 9223372036854775807 then (if ((⟨#[99, 97, 108, 108, 101, 101, 32]⟩ : ByteArray) ++ t230).size + 1 ≤ 9223372036854775807 then (if (((⟨#[99, 97, 108, 108, 101, 101, 32]⟩ : ByteArray) ++ t230) ++ (⟨#[32]⟩ : ByteArray)).size + a0_2.size ≤ 9223372036854775807 then (some ((((⟨#[99, 97, 108, 108, 101, 101, 32]⟩ : ByteArray) ++ t230) ++ (⟨#[32]⟩ : ByteArray)) ++ a0_2)) else (none)) else (none)) else (none)) = some r := H
    have A16 := Aside0.mk A160
    clear A160
    by_cases c17 : 7 + t230.size ≤ 9223372036854775807
    ·rw [if_pos c17] at H
     have c17b0 := eq_true c17
     have c17b1 : decide (7 + t230.size ≤ 9223372036854775807) = true := decide_eq_true c17
     try have c17b2 : (9223372036854775807 < 7 + t230.size) = False := eq_false (Nat.not_lt.2 c17)
     by_cases c18 : ((⟨#[99, 97, 108, 108, 101, 101, 32]⟩ : ByteArray) ++ t230).size + 1 ≤ 9223372036854775807
     ·rw [if_pos c18] at H
      have c18b0 := eq_true c18
      have c18b1 : decide (((⟨#[99, 97, 108, 108, 101, 101, 32]⟩ : ByteArray) ++ t230).size + 1 ≤ 9223372036854775807) = true := decide_eq_true c18
      try have c18b2 : (9223372036854775807 < ((⟨#[99, 97, 108, 108, 101, 101, 32]⟩ : ByteArray) ++ t230).size + 1) = False := eq_false (Nat.not_lt.2 c18)
      try have c18b3 : (9223372036854775807 < 7 + t230.size + 1) = False := eq_false (Nat.not_lt.2 (by have h_ := c18; simp only [ByteArray.size_append] at h_; exact h_))
      by_cases c19 : (((⟨#[99, 97, 108, 108, 101, 101, 32]⟩ : ByteArray) ++ t230) ++ (⟨#[32]⟩ : ByteArray)).size + a0_2.size ≤ 9223372036854775807
      ·rw [if_pos c19] at H
       have c19b0 := eq_true c19
       have c19b1 : decide ((((⟨#[99, 97, 108, 108, 101, 101, 32]⟩ : ByteArray) ++ t230) ++ (⟨#[32]⟩ : ByteArray)).size + a0_2.size ≤ 9223372036854775807) = true := decide_eq_true c19
       try have c19b2 : (9223372036854775807 < (((⟨#[99, 97, 108, 108, 101, 101, 32]⟩ : ByteArray) ++ t230) ++ (⟨#[32]⟩ : ByteArray)).size + a0_2.size) = False := eq_false (Nat.not_lt.2 c19)
       try have c19b3 : (9223372036854775807 < 7 + t230.size + 1 + a0_2.size) = False := eq_false (Nat.not_lt.2 (by have h_ := c19; simp only [ByteArray.size_append] at h_; exact h_))
       obtain rfl := Option.some.inj H
       go_enter Tryd.func14, Tryd.ntmps14
       try go_wp2_with (first | ((with_reducible refine gate_dst (N := 1) rfl ?_); refine box_event ?hg (N := 1) ?hd (cs := #[.int .i64 a0_0, .int .i64 a0_1, .string a0_2]) (t := 30) ?hr ?_; (case hd => rfl); (case hg => rfl); (case hr => first | (go_simp; done) | (go_simp; rfl)); intro gb228 hg w20 hbox hb; have n0_ := Aside0.mk (below_step (by repeat (first | (with_reducible first | exact HB.out | apply below_alloc | apply pw_below_drewN | apply below_drew1) | exact HB.out)) hb); have n1_ := Aside0.mk (hbox); have n2_ := Aside0.mk ((by rw [hg]; exact (below_size (by repeat (first | (with_reducible first | exact HB.out | apply below_alloc | apply pw_below_drewN | apply below_drew1) | exact HB.out))) : w.heap.size ≤ gb228)); have n3_ := Aside0.mk ((by rw [hg]; exact (below_size (by repeat (first | (with_reducible first | exact HB.out | apply below_alloc | apply pw_below_drewN | apply below_drew1) | exact HB.out))) : w.heap.size ≤ gb228)); clear HB; have HB := n0_; have BK228 := n1_; have GW228 := n2_; have GE228 := n3_; clear n0_ n1_ n2_ n3_; clear hb hbox hg; have hcz21_0 : w20.cell? ⟨gb228, 0, none⟩ = some (.int .i64 a0_0) := (blk_cell BK228.out 0).trans rfl; have hcz21_1 : w20.cell? ⟨gb228, 1, none⟩ = some (.int .i64 a0_1) := (blk_cell BK228.out 1).trans rfl; have hcz21_2 : w20.cell? ⟨gb228, 2, none⟩ = some (.string a0_2) := (blk_cell BK228.out 2).trans rfl; have hfz21_0 := blk_frozen BK228.out 0; have hfz21_1 := blk_frozen BK228.out 1; have hfz21_2 := blk_frozen BK228.out 2))
       have n0_ := Aside0.mk (blk_drew BK228.out)
       have n1_ := Aside0.mk (below_drew1 HB.out)
       clear BK228
       clear HB
       have BK228 := n0_
       have HB := n1_
       clear n0_ n1_
       refine start_ (n := 9) (S := fun w' => w'.cell? ⟨gb228, 0, none⟩ = some (.int .i64 a0_0) ∧ w'.cell? ⟨gb228, 1, none⟩ = some (.int .i64 a0_1) ∧ w'.cell? ⟨gb228, 2, none⟩ = some (.string a0_2)) (ds := []) #[false, false, false, false, false, false, false, false, false] (by kernel_rfl) rfl rfl ⟨(blk_cell BK228.out 0).trans rfl, (blk_cell BK228.out 1).trans rfl, (blk_cell BK228.out 2).trans rfl⟩ (fun hHeld => ?_); refine with_tabW truantref18_Text.tab7 truantref18_Text.bits7 (fun HT_ HW_ => ?_)
       generalize w20.drew = w22 at BK228 HB hHeld ⊢
       refine pure_ (i := 0) (N := some 22) (v := ?_) (a' := ?_) #[true, false, false, false, false, false, false, false, false] rfl rfl (any_of HT_.out (by kernel_rfl)) (fun _ _ _ h => h) (Or.inl ⟨by rfl, ?_⟩) ?_ ?_
       rotate_left
       ·intro w'
        go_simp
        with_reducible rfl
       rotate_left
       ·simp only [Act.put, List.setIfInBounds_toArray, List.set_cons_zero, List.set_cons_succ, i64_w, i32_w]
        rfl
       refine pure_ (i := 5) (N := some 27) (v := ?_) (a' := ?_) #[true, false, false, false, false, true, false, false, false] rfl rfl (any_of HT_.out (by kernel_rfl)) (fun _ _ _ h => h) (Or.inl ⟨by rfl, ?_⟩) ?_ ?_
       rotate_left
       ·intro w'
        go_simp
        with_reducible rfl
       rotate_left
       ·simp only [Act.put, List.setIfInBounds_toArray, List.set_cons_zero, List.set_cons_succ, i64_w, i32_w]
        rfl
       refine take_ (i := 1) (N := some 23) (v := ?_) (a' := ?_) #[true, true, false, false, false, true, false, false, false] rfl rfl (take_ofW HT_.out HW_.out (by kernel_rfl)) (fun _ _ _ h => h) (Or.inl ⟨by rfl, ?_⟩) hHeld ?_ ?_
       rotate_left
       ·rintro w' ⟨s0, s1, s2⟩
        go_simp
        with_reducible rfl
       rotate_left
       ·simp only [Act.put, List.setIfInBounds_toArray, List.set_cons_zero, List.set_cons_succ, i64_w, i32_w]
        rfl
       refine take_ (i := 6) (N := some 28) (v := ?_) (a' := ?_) #[true, true, false, false, false, true, true, false, false] rfl rfl (take_ofW HT_.out HW_.out (by kernel_rfl)) (fun _ _ _ h => h) (Or.inl ⟨by rfl, ?_⟩) hHeld ?_ ?_
       rotate_left
       ·rintro w' ⟨s0, s1, s2⟩
        go_simp
        with_reducible rfl
       rotate_left
       ·simp only [Act.put, List.setIfInBounds_toArray, List.set_cons_zero, List.set_cons_succ, i64_w, i32_w]
        rfl
       refine one_ (i := 2) (N := some 24) #[true, true, true, false, false, true, true, false, false] rfl rfl (one_of HT_.out (by kernel_rfl)) (by decide) (fun K hK => ?_)
       refine goes_ Tryd.func38 (by kernel_rfl) rfl #[.int .i64 a0_1] (by rfl) rfl rfl (by (try simp only [List.map_toArray, List.map_cons, List.map_nil]); first | done | rfl | (simp only [List.length_drop, List.length_take]; rfl)) ?_
       with_reducible refine (truantref01_Text.calls k a0_1 t230 _ A16.out).mono ?_
       rintro e w23 ⟨rfl, hb⟩
       refine ⟨_, rfl, ?_⟩
       have n0_ := Aside0.mk (blk_below (g := gb228) (o := .cells #[.int .i64 a0_0, .int .i64 a0_1, .string a0_2] 30 (0, 0)) (by (with_reducible repeat (first | refine blk_drewN ?_ _ | refine blk_drew ?_ | refine blk_alloc ?_ _)); exact BK228.out) hb)
       have n1_ := Aside0.mk (below_step (by repeat (first | (with_reducible first | exact HB.out | apply below_alloc | apply pw_below_drewN | apply below_drew1 | refine below_set ?_ GE228.out) | exact HB.out)) hb)
       clear BK228
       clear HB
       have BK228 := n0_
       have HB := n1_
       clear n0_ n1_
       (try clear hb)
       (try clear hb2)
       (try clear hk)
       (try clear hi)
       refine hK.out _ _ ⟨(blk_cell BK228.out 0).trans rfl, (blk_cell BK228.out 1).trans rfl, (blk_cell BK228.out 2).trans rfl⟩ (fun hHeld => ?_)
       clear hK K
       refine norm_ (a' := ?_) ?_ ?_
       rotate_left
       ·show Act.put _ (some 24) _ = _
        simp only [Act.put, List.setIfInBounds_toArray, List.set_cons_zero, List.set_cons_succ, i64_w, i32_w]
        rfl
       refine pure_ (i := 3) (N := some 25) (v := ?_) (a' := ?_) #[true, true, true, true, false, true, true, false, false] rfl rfl (any_of HT_.out (by kernel_rfl)) (fun _ _ _ h => h) (Or.inl ⟨by rfl, ?_⟩) ?_ ?_
       rotate_left
       ·intro w'
        go_simp
        with_reducible rfl
       rotate_left
       ·simp only [Act.put, List.setIfInBounds_toArray, List.set_cons_zero, List.set_cons_succ, i64_w, i32_w]
        rfl
       refine pure_ (i := 4) (N := some 26) (v := ?_) (a' := ?_) #[true, true, true, true, true, true, true, false, false] rfl rfl (any_of HT_.out (by kernel_rfl)) (fun _ _ _ h => h) (Or.inl ⟨by rfl, ?_⟩) ?_ ?_
       rotate_left
       ·intro w'
        go_simp
        with_reducible rfl
       rotate_left
       ·simp only [Act.put, List.setIfInBounds_toArray, List.set_cons_zero, List.set_cons_succ, i64_w, i32_w]
        rfl
       refine pure_ (i := 7) (N := some 29) (v := ?_) (a' := ?_) #[true, true, true, true, true, true, true, true, false] rfl rfl (any_of HT_.out (by kernel_rfl)) (fun _ _ _ h => h) (Or.inl ⟨by rfl, ?_⟩) ?_ ?_
       rotate_left
       ·intro w'
        go_simp
        with_reducible rfl
       rotate_left
       ·simp only [Act.put, List.setIfInBounds_toArray, List.set_cons_zero, List.set_cons_succ, i64_w, i32_w]
        rfl
       refine pure_ (i := 8) (N := some 2) (v := ?_) (a' := ?_) #[true, true, true, true, true, true, true, true, true] rfl rfl (any_of HT_.out (by kernel_rfl)) (fun _ _ _ h => h) (Or.inl ⟨by rfl, ?_⟩) ?_ ?_
       rotate_left
       ·intro w'
        go_simp
        with_reducible rfl
       rotate_left
       ·simp only [Act.put, List.setIfInBounds_toArray, List.set_cons_zero, List.set_cons_succ, i64_w, i32_w]
        rfl
       refine done_ (done_of HT_.out (by kernel_rfl)) ?_
       try go_wp2
       go_ret
       exact ⟨by first | rfl | (simp [errW_none, errW_some] <;> rfl) | (simp [*, errW_none, errW_some] <;> rfl), by repeat (first | (with_reducible first | exact HB.out | apply below_alloc | apply pw_below_drewN | apply below_drew1 | refine below_set ?_ GE228.out) | exact HB.out)⟩
      ·rw [if_neg c19] at H
       exact absurd H (by simp)
     ·rw [if_neg c18] at H
      exact absurd H (by simp)
    ·rw [if_neg c17] at H
     exact absurd H (by simp)
   ·rw [if_neg c15] at H
    have c15b0 : (a0_0 == 3) = false := beq_eq_false_iff_ne.mpr c15
    have c15b1 : (a0_0 != 3) = true := bne_iff_ne.mpr c15
    by_cases c24 : a0_0 = 4
    ·rw [if_pos c24] at H
     have c24b0 : (a0_0 == 4) = true := beq_iff_eq.mpr c24
     have c24b1 : (a0_0 != 4) = false := bne_eq_false_iff_eq.mpr c24
     clear c24
     by_cases c25 : 6 + a0_2.size ≤ 9223372036854775807
     ·rw [if_pos c25] at H
      have c25b0 := eq_true c25
      have c25b1 : decide (6 + a0_2.size ≤ 9223372036854775807) = true := decide_eq_true c25
      try have c25b2 : (9223372036854775807 < 6 + a0_2.size) = False := eq_false (Nat.not_lt.2 c25)
      obtain rfl := Option.some.inj H
      go_enter Tryd.func14, Tryd.ntmps14
      go_wp2_with (first | ((with_reducible refine gate_dst (N := 1) rfl ?_); refine box_event ?hg (N := 1) ?hd (cs := #[.int .i64 a0_0, .int .i64 a0_1, .string a0_2]) (t := 30) ?hr ?_; (case hd => rfl); (case hg => rfl); (case hr => first | (go_simp; done) | (go_simp; rfl)); intro gb228 hg w26 hbox hb; have n0_ := Aside0.mk (below_step (by repeat (first | (with_reducible first | exact HB.out | apply below_alloc | apply pw_below_drewN | apply below_drew1) | exact HB.out)) hb); have n1_ := Aside0.mk (hbox); have n2_ := Aside0.mk ((by rw [hg]; exact (below_size (by repeat (first | (with_reducible first | exact HB.out | apply below_alloc | apply pw_below_drewN | apply below_drew1) | exact HB.out))) : w.heap.size ≤ gb228)); have n3_ := Aside0.mk ((by rw [hg]; exact (below_size (by repeat (first | (with_reducible first | exact HB.out | apply below_alloc | apply pw_below_drewN | apply below_drew1) | exact HB.out))) : w.heap.size ≤ gb228)); clear HB; have HB := n0_; have BK228 := n1_; have GW228 := n2_; have GE228 := n3_; clear n0_ n1_ n2_ n3_; clear hb hbox hg; have hcz27_0 : w26.cell? ⟨gb228, 0, none⟩ = some (.int .i64 a0_0) := (blk_cell BK228.out 0).trans rfl; have hcz27_1 : w26.cell? ⟨gb228, 1, none⟩ = some (.int .i64 a0_1) := (blk_cell BK228.out 1).trans rfl; have hcz27_2 : w26.cell? ⟨gb228, 2, none⟩ = some (.string a0_2) := (blk_cell BK228.out 2).trans rfl; have hfz27_0 := blk_frozen BK228.out 0; have hfz27_1 := blk_frozen BK228.out 1; have hfz27_2 := blk_frozen BK228.out 2))
      go_ret
      exact ⟨by first | rfl | (simp [errW_none, errW_some] <;> rfl) | (simp [*, errW_none, errW_some] <;> rfl), by repeat (first | (with_reducible first | exact HB.out | apply below_alloc | apply pw_below_drewN | apply below_drew1 | refine below_set ?_ GE228.out) | exact HB.out)⟩
     ·rw [if_neg c25] at H
      exact absurd H (by simp)
    ·rw [if_neg c24] at H
     have c24b0 : (a0_0 == 4) = false := beq_eq_false_iff_ne.mpr c24
     have c24b1 : (a0_0 != 4) = true := bne_iff_ne.mpr c24
     obtain rfl := Option.some.inj H
     go_enter Tryd.func14, Tryd.ntmps14
     go_wp2_with (first | ((with_reducible refine gate_dst (N := 1) rfl ?_); refine box_event ?hg (N := 1) ?hd (cs := #[.int .i64 a0_0, .int .i64 a0_1, .string a0_2]) (t := 30) ?hr ?_; (case hd => rfl); (case hg => rfl); (case hr => first | (go_simp; done) | (go_simp; rfl)); intro gb228 hg w28 hbox hb; have n0_ := Aside0.mk (below_step (by repeat (first | (with_reducible first | exact HB.out | apply below_alloc | apply pw_below_drewN | apply below_drew1) | exact HB.out)) hb); have n1_ := Aside0.mk (hbox); have n2_ := Aside0.mk ((by rw [hg]; exact (below_size (by repeat (first | (with_reducible first | exact HB.out | apply below_alloc | apply pw_below_drewN | apply below_drew1) | exact HB.out))) : w.heap.size ≤ gb228)); have n3_ := Aside0.mk ((by rw [hg]; exact (below_size (by repeat (first | (with_reducible first | exact HB.out | apply below_alloc | apply pw_below_drewN | apply below_drew1) | exact HB.out))) : w.heap.size ≤ gb228)); clear HB; have HB := n0_; have BK228 := n1_; have GW228 := n2_; have GE228 := n3_; clear n0_ n1_ n2_ n3_; clear hb hbox hg; have hcz29_0 : w28.cell? ⟨gb228, 0, none⟩ = some (.int .i64 a0_0) := (blk_cell BK228.out 0).trans rfl; have hcz29_1 : w28.cell? ⟨gb228, 1, none⟩ = some (.int .i64 a0_1) := (blk_cell BK228.out 1).trans rfl; have hcz29_2 : w28.cell? ⟨gb228, 2, none⟩ = some (.string a0_2) := (blk_cell BK228.out 2).trans rfl; have hfz29_0 := blk_frozen BK228.out 0; have hfz29_1 := blk_frozen BK228.out 1; have hfz29_2 := blk_frozen BK228.out 2))
     go_ret
     exact ⟨by first | rfl | (simp [errW_none, errW_some] <;> rfl) | (simp [*, errW_none, errW_some] <;> rfl), by repeat (first | (with_reducible first | exact HB.out | apply below_alloc | apply pw_below_drewN | apply below_drew1 | refine below_set ?_ GE228.out) | exact HB.out)⟩
end Go.Proofs.YtgidnkmlnccaiaaDoor.Q
/- A map to bools as a set of keys: laws for the walk; and small words on rows. -/
namespace Go.Proofs.YtgidnkmlnccaiaaDoor.Q
open Go.RowKit Go.Proofs.YtgidnkmlnccaiaaDoorW.PrintWords Go.Proofs.YtgidnkmlnccaiaaDoorW.PrintLast Go.Proofs.YtgidnkmlnccaiaaDoorW.PrintMore
set_option linter.unusedVariables false
set_option linter.unusedSimpArgs false
open Go.Maps (Keyed)
section
variable {P : Program} {k e t : TypeId} {w w1 : World} {b : Nat} {S : List Lit}
theorem plain_bool_inv {v : Value} {x : Bool} {ps : List MemPlace} (he : P.underlying e = some .bool) (h : plainElem (H := Unit) P e v = some (.lit (.bool x), ps)) : v = .bool x := by
 unfold plainElem at h
 rw [he] at h
 cases v <;> simp at h
 obtain ⟨rfl, _⟩ := h
 rfl
end
theorem lit_R {α : Type} (d : Kd α) {W : World} (base e : Nat) {xs : List α} {inner : List Value} {ok okp : Nat → Prop}
  (hrep : Reps (d.M W base okp) d.sz xs inner) (hok : ∀ k, okp k → ok k) (hfresh : ok W.heap.size) (hbase : base ≤ W.heap.size) (hm : xs.length ≤ 9223372036854775807) :
  d.R e (W.alloc (.cells inner.toArray e)) base ok (.slice (some ⟨W.heap.size, 0, none⟩) xs.length xs.length) xs := by
 refine ⟨fun k hk => ?_, inner, ?_, ?_⟩
 ·have : W.heap.size = k := by simpa [Value.ownBlock] using hk
  subst this
  exact hfresh
 ·have h2 := World.ownsRow_lit (base := base) (e := e) (size := d.sz) W inner.toArray xs.length hbase (by simpa [maxLen] using hm) (by simpa using hrep.1)
  simpa using h2
 ·refine hrep.imp_ (fun p c hp => d.M_mono (fun k hk => ⟨hok k hk.1, fun he => ?_⟩) (Kd.M_below (d.M_bound hp) (below_alloc (Below.refl _ _) _)))
  have h3 : k = W.heap.size := by simpa [Value.ownBlock] using he
  have := hk.2.2.1
  omega
theorem at_scalar {α : Type} {enc : α → Value} {h1 : ∀ x, (enc x).oneCell' = true} {w : World} {A : Option Addr} {n : Nat} {xs : List α} (h : Kd.C (Kd.scalar enc h1) w A n xs) (z : α) (k : Nat) (hk : k < n) : ∃ ad, A = some ad ∧ w.cell? (ad.add k) = some (enc (xs.getD k z)) := by
 obtain ⟨e1, e2, h⟩ := h
 obtain ⟨ad, ea, h⟩ := h (by omega)
 have hl : k < xs.length := by omega
 obtain ⟨c, hc, hK, hcell⟩ := h k _ (List.getElem?_eq_getElem hl)
 refine ⟨ad, ea, ?_⟩
 have hK' : c = [enc xs[k]] := hK
 subst hK'
 have := hcell 0 _ rfl
 have e : k * (Kd.scalar enc h1).sz + 0 = k := by show k * 1 + 0 = k; omega
 rw [e] at this
 rw [this, getD_at xs z hl]
theorem at_int {q : IntKind} {w : World} {A : Option Addr} {n : Nat} {xs : List Int} (h : Kd.C (Kd.int q) w A n xs) (k : Nat) (hk : k < n) : ∃ ad, A = some ad ∧ w.cell? (ad.add k) = some (.int q (xs.getD k 0)) := at_scalar (enc := Value.int q) h _ k hk
abbrev Nd := S24
def ndV (x : Nd) : Value := .agg #[.int .i64 x.f0, .int .i64 x.f1, .string x.f2]
/-- A node whose numbers are numbers, and whose text is a text. -/
def ndW (x : Nd) : Prop := (Lit.int .i64 x.f0).wf = true ∧ (Lit.int .i64 x.f1).wf = true ∧ x.f2.size ≤ maxLen
/-- Its key. -/
def nl (x : Nd) : Lit := .string (keyBytes [.int .i64 x.f0, .int .i64 x.f1, .string x.f2.data.toList])
theorem nd_deep : Tryd.prog.keyTypeAt 2 24 = true := by kernel_rfl
theorem nd_tiled : Tryd.prog.tiled 2 24 = true := by kernel_rfl
theorem nd_law : Keyed Tryd.prog 24 := Keyed.of_law (deep_law (m := 2) (by omega) nd_deep nd_tiled (by rw [Tryd.underlying24]))
theorem types_pos : decide (0 < Tryd.prog.types.size) = true := by kernel_rfl
theorem types_size : ∃ d, Tryd.prog.types.size = d + 1 := ⟨Tryd.prog.types.size - 1, by have := of_decide_eq_true types_pos; omega⟩
theorem kl_int (d : Nat) (n : Int) (h : (Lit.int .i64 n).wf = true) : Tryd.prog.keyLits (d + 1) 3 [.int .i64 n] = some [.int .i64 n] := by
 unfold Program.keyLits
 rw [Tryd.underlying3]
 simp [h]
theorem kl_str (d : Nat) (s : ByteArray) (h : s.size ≤ maxLen) : Tryd.prog.keyLits (d + 1) 9 [.string s] = some [.string s.data.toList] := by
 unfold Program.keyLits
 rw [Tryd.underlying9]
 simp [h]
theorem cells_nd : Tryd.prog.cellsOf 24 = 3 := by kernel_rfl
theorem cells_int : Tryd.prog.cellsOf 3 = 1 := by kernel_rfl
theorem cells_str : Tryd.prog.cellsOf 9 = 1 := by kernel_rfl
theorem nd_keyType : Tryd.prog.keyType 24 = true := by kernel_rfl
theorem nd_key {x : Nd} (h : ndW x) : keyOf Tryd.prog 24 (ndV x) = some (nl x) := by
 obtain ⟨h1, h2, h3⟩ := h
 unfold ndV nl
 have hf : (Value.agg #[.int .i64 x.f0, .int .i64 x.f1, .string x.f2]).formed Tryd.prog 24 = true := by
  unfold Value.formed
  simp only [Tryd.underlying24, cells_nd]; rfl
 obtain ⟨d, hd⟩ := types_size
 have hl : Tryd.prog.keyLits (Tryd.prog.types.size + 1) 24 [.int .i64 x.f0, .int .i64 x.f1, .string x.f2] = some [.int .i64 x.f0, .int .i64 x.f1, .string x.f2.data.toList] := by
  rw [hd]
  unfold Program.keyLits
  simp only [Tryd.underlying24, cells_nd]
  simp [cells_int, cells_str, kl_int d x.f0 h1, kl_int d x.f1 h2, kl_str d x.f2 h3]
 unfold keyOf
 simp only [Tryd.underlying24, nd_keyType, hf, Bool.and_self, if_true]
 show (Tryd.prog.keyLits (Tryd.prog.types.size + 1) 24 [.int .i64 x.f0, .int .i64 x.f1, .string x.f2]).map _ = _
 rw [hl]; rfl
theorem ndV_inj {x y : Nd} (h : ndV x = ndV y) : x = y := by
 unfold ndV at h
 cases x; cases y
 simp_all
theorem nl_inj {x y : Nd} (hx : ndW x) (hy : ndW y) (h : nl x = nl y) : x = y := ndV_inj (nd_law.inj (nd_key hx) (by rw [h]; exact nd_key hy))
theorem nl_lit (x : Nd) : WideAt.IsKeyLit (nl x) := trivial
/-- The order of nodes. -/
def ltN (a b : Nd) : Bool := if a.f0 = b.f0 then (if a.f1 = b.f1 then Op.bytesLess a.f2.toList b.f2.toList else decide (a.f1 < b.f1)) else decide (a.f0 < b.f0)
def eqN (a b : Nd) : Bool := decide (a.f0 = b.f0) && decide (a.f1 = b.f1) && decide (a.f2 = b.f2)
theorem eqN_iff {a b : Nd} : eqN a b = true ↔ a = b := by
 unfold eqN
 rw [Bool.and_eq_true, Bool.and_eq_true, decide_eq_true_eq, decide_eq_true_eq, decide_eq_true_eq]
 constructor
 ·rintro ⟨⟨h1, h2⟩, h3⟩
  cases a; cases b; simp_all
 ·rintro rfl; exact ⟨⟨rfl, rfl⟩, rfl⟩
/-- A row in order, with one more. -/
def addR : List Nd → Nd → List Nd
 | [], x => [x]
 | y :: r, x => if eqN y x = true then y :: r else if ltN x y = true then x :: y :: r else y :: addR r x
theorem addR_mem (x z : Nd) : ∀ r, z ∈ addR r x ↔ z ∈ r ∨ z = x
 | [] => by simp [addR]
 | y :: r => by
  unfold addR
  by_cases h1 : eqN y x = true
  ·rw [if_pos h1]
   have := eqN_iff.mp h1
   subst this
   simp only [List.mem_cons]
   exact ⟨.inl, fun h => h.elim id .inl⟩
  ·rw [if_neg h1]
   by_cases h2 : ltN x y = true
   ·rw [if_pos h2]; simp only [List.mem_cons]; exact ⟨fun h => h.elim .inr .inl, fun h => h.elim .inr .inl⟩
   ·rw [if_neg h2, List.mem_cons, addR_mem x z r, List.mem_cons]
    exact or_assoc.symm
theorem addR_has {x : Nd} : ∀ {r : List Nd}, r.Pairwise (fun a b => ltN a b = true) → (∀ a b, ltN a b = true → ltN b a = false) → x ∈ r → addR r x = r
 | [], _, _, h => by cases h
 | y :: r, hs, ha, h => by
  unfold addR
  by_cases h1 : eqN y x = true
  ·rw [if_pos h1]
  ·rw [if_neg h1]
   have hxr : x ∈ r := by
    rcases List.mem_cons.mp h with h | h
    ·exact absurd (eqN_iff.mpr h.symm) h1
    ·exact h
   have hyx := (List.pairwise_cons.mp hs).1 x hxr
   rw [if_neg (by rw [ha _ _ hyx]; decide), addR_has (List.pairwise_cons.mp hs).2 ha hxr]
theorem addR_len {x : Nd} : ∀ {r : List Nd}, x ∉ r → (addR r x).length = r.length + 1
 | [], _ => rfl
 | y :: r, h => by
  unfold addR
  rw [List.mem_cons] at h
  rw [if_neg (fun e => h (.inl (eqN_iff.mp e).symm))]
  split
  ·rfl
  ·rw [List.length_cons, addR_len (fun e => h (.inr e)), List.length_cons]
theorem ltN_irrefl (a : Nd) : ltN a a = false := by unfold ltN; rw [if_pos rfl, if_pos rfl, bl_irrefl]
theorem ltN_asymm {a b : Nd} (h : ltN a b = true) : ltN b a = false := by
 unfold ltN at h ⊢
 by_cases h0 : a.f0 = b.f0
 ·rw [if_pos h0] at h
  rw [if_pos h0.symm]
  by_cases h1 : a.f1 = b.f1
  ·rw [if_pos h1] at h
   rw [if_pos h1.symm]
   exact bl_asymm h
  ·rw [if_neg h1] at h
   rw [if_neg (fun e => h1 e.symm)]
   have := of_decide_eq_true h
   exact decide_eq_false (by omega)
 ·rw [if_neg h0] at h
  rw [if_neg (fun e => h0 e.symm)]
  have := of_decide_eq_true h
  exact decide_eq_false (by omega)
theorem ltN_trans {a b c : Nd} (h : ltN a b = true) (k : ltN b c = true) : ltN a c = true := by
 unfold ltN at h k ⊢
 by_cases h0 : a.f0 = b.f0
 ·rw [if_pos h0] at h
  by_cases k0 : b.f0 = c.f0
  ·rw [if_pos k0] at k
   rw [if_pos (h0.trans k0)]
   by_cases h1 : a.f1 = b.f1
   ·rw [if_pos h1] at h
    by_cases k1 : b.f1 = c.f1
    ·rw [if_pos k1] at k
     rw [if_pos (h1.trans k1)]
     exact bl_trans h k
    ·rw [if_neg k1] at k
     rw [if_neg (by rw [h1]; exact k1), h1]; exact k
   ·rw [if_neg h1] at h
    have := of_decide_eq_true h
    by_cases k1 : b.f1 = c.f1
    ·rw [if_neg (by omega)]; exact decide_eq_true (by omega)
    ·rw [if_neg k1] at k
     have := of_decide_eq_true k
     rw [if_neg (by omega)]; exact decide_eq_true (by omega)
  ·rw [if_neg k0] at k
   rw [if_neg (by rw [h0]; exact k0), h0]; exact k
 ·rw [if_neg h0] at h
  have := of_decide_eq_true h
  by_cases k0 : b.f0 = c.f0
  ·rw [if_neg (by omega)]; exact decide_eq_true (by omega)
  ·rw [if_neg k0] at k
   have := of_decide_eq_true k
   rw [if_neg (by omega)]; exact decide_eq_true (by omega)
theorem ltN_total {a b : Nd} (h : ltN a b = false) (k : ltN b a = false) : a = b := by
 unfold ltN at h k
 by_cases h0 : a.f0 = b.f0
 ·rw [if_pos h0] at h
  rw [if_pos h0.symm] at k
  by_cases h1 : a.f1 = b.f1
  ·rw [if_pos h1] at h
   rw [if_pos h1.symm] at k
   have h2 := bytes_eq (bl_total h k)
   cases a; cases b; simp_all
  ·rw [if_neg h1] at h
   rw [if_neg (fun e => h1 e.symm)] at k
   have := of_decide_eq_false h; have := of_decide_eq_false k
   omega
 ·rw [if_neg h0] at h
  rw [if_neg (fun e => h0 e.symm)] at k
  have := of_decide_eq_false h; have := of_decide_eq_false k
  omega
/-- In order, each once. -/
abbrev Up (r : List Nd) : Prop := r.Pairwise (fun a b => ltN a b = true)
theorem addR_up {x : Nd} : ∀ {r : List Nd}, Up r → Up (addR r x)
 | [], _ => List.pairwise_singleton _ _
 | y :: r, h => by
  obtain ⟨h1, h2⟩ := List.pairwise_cons.mp h
  unfold addR
  by_cases e1 : eqN y x = true
  ·rw [if_pos e1]; exact h
  ·rw [if_neg e1]
   by_cases e2 : ltN x y = true
   ·rw [if_pos e2]
    refine List.pairwise_cons.mpr ⟨fun z hz => ?_, h⟩
    rcases List.mem_cons.mp hz with hz | hz
    ·rw [hz]; exact e2
    ·exact ltN_trans e2 (h1 z hz)
   ·rw [if_neg e2]
    refine List.pairwise_cons.mpr ⟨fun z hz => ?_, addR_up h2⟩
    rcases (addR_mem x z r).mp hz with hz | hz
    ·exact h1 z hz
    ·rw [hz]
     cases e3 : ltN y x
     ·exact absurd (eqN_iff.mpr (ltN_total e3 (by simpa using e2))) e1
     ·rfl
theorem Up.nodup {r : List Nd} (h : Up r) : r.Nodup := h.imp (fun {a b} hab e => by rw [e, ltN_irrefl] at hab; cases hab)
/-- Two rows in order with the same nodes are the same. -/
theorem up_ext : ∀ {r s : List Nd}, Up r → Up s → (∀ x, x ∈ r ↔ x ∈ s) → r = s
 | [], [], _, _, _ => rfl
 | [], y :: s, _, _, h => absurd ((h y).mpr (by simp)) (by simp)
 | x :: r, [], _, _, h => absurd ((h x).mp (by simp)) (by simp)
 | x :: r, y :: s, hr, hs, h => by
  obtain ⟨r1, r2⟩ := List.pairwise_cons.mp hr
  obtain ⟨s1, s2⟩ := List.pairwise_cons.mp hs
  have e : x = y := by
   rcases List.mem_cons.mp ((h x).mp (by simp)) with e | e
   ·exact e
   ·rcases List.mem_cons.mp ((h y).mpr (by simp)) with e2 | e2
    ·exact e2.symm
    ·have a1 := s1 x e
     have a2 := ltN_asymm (r1 y e2)
     rw [a1] at a2; cases a2
  subst e
  rw [up_ext r2 s2 (fun z => ?_)]
  constructor
  ·intro hz
   rcases List.mem_cons.mp ((h z).mp (List.mem_cons_of_mem _ hz)) with e | e
   ·have := r1 z hz; rw [e, ltN_irrefl] at this; cases this
   ·exact e
  ·intro hz
   rcases List.mem_cons.mp ((h z).mpr (List.mem_cons_of_mem _ hz)) with e | e
   ·have := s1 z hz; rw [e, ltN_irrefl] at this; cases this
   ·exact e
abbrev tM : TypeId := 48
/-- What a map's data say of a set. -/
structure DataR (D : DataW Unit) (r : List Nd) : Prop where
 tidy : Maps.Tidy D
 up : Up r
 wf : ∀ x ∈ r, ndW x
 has : ∀ x, ndW x → (Maps.has D (nl x) = true ↔ x ∈ r)
 keys : ∀ l, Maps.has D l = true → ∃ x ∈ r, l = nl x
 val : ∀ l z, Maps.has D l = true → D.atKey l z = .lit (.bool true)
 size : Maps.size D = r.length
theorem DataR.empty : DataR (.map []) [] := ⟨Maps.tidy_empty, List.Pairwise.nil, fun x hx => (nomatch hx), fun x _ => ⟨fun h => (nomatch h), fun h => (nomatch h)⟩, fun l h => (nomatch h), fun l z h => (nomatch h), rfl⟩
theorem DataR.put {D : DataW Unit} {r : List Nd} (h : DataR D r) {x : Nd} (hx : ndW x) : DataR (D.put (nl x) (.lit (.bool true))) (addR r x) := by
 have hm := h.tidy.isMap
 have hhas : ∀ l, Maps.has (D.put (nl x) (.lit (.bool true))) l = true ↔ (Maps.has D l = true ∨ l = nl x) := fun l => by
  by_cases e : l = nl x
  ·rw [e, Maps.has_put_same hm (nl_lit x)]; exact ⟨fun _ => .inr rfl, fun _ => rfl⟩
  ·rw [Maps.has_put_other e]; exact ⟨.inl, fun h => h.elim id (fun e2 => absurd e2 e)⟩
 refine ⟨h.tidy.put (nl_lit x) _, addR_up h.up, fun y hy => ?_, fun y hy => ?_, fun l hl => ?_, fun l z hl => ?_, ?_⟩
 ·rcases (addR_mem x y r).mp hy with hy | hy
  ·exact h.wf y hy
  ·rw [hy]; exact hx
 ·rw [hhas, addR_mem, h.has y hy]
  exact ⟨fun h => h.imp id (nl_inj hy hx), fun h => h.imp id (fun e => by rw [e])⟩
 ·rcases (hhas l).mp hl with hl | hl
  ·obtain ⟨y, hy, e⟩ := h.keys l hl
   exact ⟨y, (addR_mem x y r).mpr (.inl hy), e⟩
  ·exact ⟨x, (addR_mem x x r).mpr (.inr rfl), hl⟩
 ·by_cases e : l = nl x
  ·rw [e, Maps.atKey_put_same hm (nl_lit x)]
  ·rw [Maps.atKey_put_other e]
   exact h.val l z (((hhas l).mp hl).resolve_right e)
 ·rw [Maps.size_put h.tidy, h.size]
  by_cases hm2 : x ∈ r
  ·rw [if_pos ((h.has x hx).mpr hm2), addR_has h.up (fun a b hab => ltN_asymm hab) hm2]
  ·rw [if_neg (fun e => hm2 ((h.has x hx).mp e)), addR_len hm2]
/-- Block b is a set of nodes. -/
def SetR (w : World) (b : Nat) (r : List Nd) : Prop := ∃ D, w.ownsMap (H := Unit) Tryd.prog 24 (plainElem Tryd.prog 4) b r.length D ∧ DataR D r
theorem owns_tight {w : World} {b n : Nat} {D : DataW Unit} {k e : TypeId} (h : w.ownsMap Tryd.prog k (plainElem Tryd.prog e) b n D) : w.ownsMap Tryd.prog k (plainElem Tryd.prog e) b (Maps.size D) D := by
 obtain ⟨es, clock, hb, F, hs, hD⟩ := h
 refine ⟨es, clock, hb, F, ?_, hD⟩
 rw [hD, Maps.size_eq, length_read]
 exact Nat.le_refl _
theorem zeroNb (w : World) : (zeroValue 4).run Tryd.prog w = .ok (.bool false) w := by kernel_rfl
section
variable {w w1 : World} {b : Nat} {r : List Nd}
theorem SetR.made (w : World) : SetR (w.alloc (.map #[] 0)) w.heap.size [] := ⟨.map [], World.ownsMap_made _ _ _ _, DataR.empty⟩
theorem SetR.kept (h : SetR w b r) {row : Option Nat} (hg : w.grownBy w1 row) (hne : some b ≠ row) : SetR w1 b r := by
 obtain ⟨D, h1, h2⟩ := h
 exact ⟨D, h1.kept hg hne, h2⟩
theorem SetR.lt (h : SetR w b r) : b < w.heap.size := by obtain ⟨D, h1, h2⟩ := h; exact h1.lt
theorem SetR.below (h : SetR w b r) (hb : Below w.heap.size w w1) : SetR w1 b r := h.kept (grown_of_below hb none) (by simp)
theorem SetR.alloc (h : SetR w b r) (o : Obj) : SetR (w.alloc o) b r := h.below (below_alloc (Below.refl _ _) o)
theorem SetR.up (h : SetR w b r) : Up r := by obtain ⟨D, _, h2⟩ := h; exact h2.up
theorem SetR.wf (h : SetR w b r) : ∀ x ∈ r, ndW x := by obtain ⟨D, _, h2⟩ := h; exact h2.wf
theorem SetR.lookup (h : SetR w b r) {x : Nd} (hx : ndW x) : (Instr.lookup tM (.map (some b)) (ndV x) false).run Tryd.prog w = .ok (.bool (decB (x ∈ r))) w := by
 obtain ⟨D, h1, h2⟩ := h
 obtain ⟨v, ps, hrun, hv⟩ := h1.lookup nd_law Tryd.underlying48 (zeroNb w) (plainElem_bool Tryd.underlying4 false) (nd_key hx)
 rw [hrun]
 by_cases hm : x ∈ r
 ·rw [h2.val _ _ ((h2.has x hx).mpr hm)] at hv
  rw [plain_bool_inv Tryd.underlying4 hv, decB_true hm]
 ·rw [Maps.atKey_of_not_has (by rw [← Bool.not_eq_true, h2.has x hx]; exact hm)] at hv
  rw [plain_bool_inv Tryd.underlying4 hv, decB_false hm]
theorem SetR.len (h : SetR w b r) (ty : TypeId) : (Builtin.len_ #[tM] ty #[.map (some b)]).run Tryd.prog w = .ok (.int .i64 r.length) w := by
 obtain ⟨D, h1, h2⟩ := h
 rw [h1.len Tryd.underlying48 ty, h2.size]
theorem SetR.update_op {ops : Array Oper} {rest : List Oper} {o : Oper} {a : Act} {Q : Exit → Act → World → Prop} (h : SetR w b r)
  (hg : o.guard = none) (m x v : Operand) (hop : o.op = Op.mapUpdate tM m x v)
  (hm : a.eval m = .map (some b)) (hn : r.length < maxLen) (y : Nd) (hx : a.eval x = ndV y) (hv : a.eval v = .bool true) (hy : ndW y)
  (hK : ∀ w', SetR w' b (addR r y) → w.grownBy w' (some b) → wpList Tryd.prog ops Q rest (a.put o.dst undef) w') :
  wpList Tryd.prog ops Q (o :: rest) a w := by
 obtain ⟨D, h1, h2⟩ := h
 refine wpList_mapUpdate_own w hg m x v tM hop 24 4 nd_law Tryd.underlying48 (plainElem Tryd.prog 4) b _ D hm h1 hn (ndV y) _ (nl y) hx hv (nd_key hy) _ [] (plainElem_bool Tryd.underlying4 true) ?_
 intro w' ho hgr
 have h3 := h2.put hy
 have ho2 := owns_tight ho
 rw [h3.size] at ho2
 exact hK w' ⟨_, ho2, h3⟩ hgr
end
/-- A walk over a set: it goes on at block q; these have come. -/
def RunR (w : World) (b q : Nat) (r done : List Nd) : Prop := ∃ D left cnt, w.ranges (H := Unit) Tryd.prog 24 (plainElem Tryd.prog 4) b q r.length D left cnt ∧ DataR D r ∧ (∀ l, left l = true ↔ ∃ x ∈ r, x ∉ done ∧ l = nl x) ∧ (∀ x ∈ done, x ∈ r) ∧ done.Nodup
theorem length_le_of_subset {α : Type} [DecidableEq α] : ∀ {l r : List α}, l.Nodup → (∀ z ∈ l, z ∈ r) → l.length ≤ r.length
 | [], _, _, _ => Nat.zero_le _
 | x :: l, r, hn, hs => by
  obtain ⟨h1, h2⟩ := List.nodup_cons.mp hn
  have hx := hs x (by simp)
  have := length_le_of_subset (l := l) (r := r.erase x) h2 (fun z hz => (List.mem_erase_of_ne (fun (e : z = x) => h1 (by rw [← e]; exact hz))).mpr (hs z (List.mem_cons_of_mem _ hz)))
  rw [List.length_erase_of_mem hx] at this
  have := List.length_pos_of_mem hx
  rw [List.length_cons]; omega
section
variable {w w1 : World} {b q : Nat} {r done : List Nd}
theorem RunR.set (h : RunR w b q r done) : SetR w b r := by
 obtain ⟨D, left, cnt, h1, h2, _⟩ := h
 exact ⟨D, h1.owns, h2⟩
theorem RunR.ne (h : RunR w b q r done) : q ≠ b := by obtain ⟨D, left, cnt, h1, _⟩ := h; exact h1.ne
theorem RunR.lt (h : RunR w b q r done) : q < w.heap.size := by obtain ⟨D, left, cnt, h1, _⟩ := h; exact h1.lt
theorem RunR.kept (h : RunR w b q r done) {row : Option Nat} (hg : w.grownBy w1 row) (hb : some b ≠ row) (hq : some q ≠ row) : RunR w1 b q r done := by
 obtain ⟨D, left, cnt, h1, h2⟩ := h
 exact ⟨D, left, cnt, h1.kept hg hb hq, h2⟩
theorem RunR.below (h : RunR w b q r done) (hb : Below w.heap.size w w1) : RunR w1 b q r done := h.kept (grown_of_below hb none) (by simp) (by simp)
theorem RunR.start_op {ops : Array Oper} {rest : List Oper} {o : Oper} {a : Act} {Q : Exit → Act → World → Prop} (h : SetR w b r) (hg : o.guard = none) (m : Operand) (hop : o.op = Op.range tM m) (hm : a.eval m = .map (some b))
  (hK : ∀ w', RunR w' b w.heap.size r [] → Below w.heap.size w w' → wpList Tryd.prog ops Q rest (a.put o.dst (.pointer (some ⟨w.heap.size, 0, none⟩))) w') : wpList Tryd.prog ops Q (o :: rest) a w := by
 obtain ⟨D, h1, h2⟩ := h
 refine wpList_range_own w hg m tM hop 24 4 nd_law Tryd.underlying48 (plainElem Tryd.prog 4) b _ D hm h1 ?_
 intro w' hr hgr _
 refine hK w' ⟨D, _, _, hr, h2, fun l => ?_, fun x hx => (nomatch hx), List.nodup_nil⟩ ((Below.refl w.heap.size w).grown hgr (Nat.le_refl _) (fun k hk => (nomatch hk)))
 constructor
 ·intro hl
  obtain ⟨x, hx, e⟩ := h2.keys l hl
  exact ⟨x, hx, by simp, e⟩
 ·rintro ⟨x, hx, _, rfl⟩
  exact (h2.has x (h2.wf x hx)).mpr hx
theorem RunR.next_op {ops : Array Oper} {rest : List Oper} {o : Oper} {a : Act} {Q : Exit → Act → World → Prop} (h : RunR w b q r done) (hg : o.guard = none) (it : Operand) (hop : o.op = Op.next it false) (hit : a.eval it = .pointer (some ⟨q, 0, none⟩))
  (hDone : done.Perm r → wpList Tryd.prog ops Q rest (a.put o.dst (.tuple #[.bool false])) w)
  (hMore : ∀ (x : Nd) (w' : World), x ∈ r → x ∉ done → done.length < r.length → RunR w' b q r (done ++ [x]) → w.grownBy w' (some q) → w'.heap.size = w.heap.size → w'.rangeLeft b q < w.rangeLeft b q → (Instr.entry (.pointer (some ⟨q, 0, none⟩))).run Tryd.prog w' = .ok (.tuple #[ndV x, .bool true]) w' → wpList Tryd.prog ops Q rest (a.put o.dst (.tuple #[.bool true, ndV x, .bool true])) w') :
  wpList Tryd.prog ops Q (o :: rest) a w := by
 obtain ⟨D, left, cnt, h1, h2, h3, h4, h5⟩ := h
 refine wpList_next_ranges w hg it hop 24 nd_law (plainElem Tryd.prog 4) id id (fun key _ _ => ⟨key, rfl⟩) (fun v _ _ => ⟨v, rfl⟩) b q _ D left cnt hit h1 ?_ ?_
 ·intro _ hl
  refine hDone ?_
  refine (List.perm_ext_iff_of_nodup h5 h2.up.nodup).mpr (fun x => ⟨h4 x, fun hx => ?_⟩)
  exact Classical.byContradiction (fun hn => by
   have := (h3 (nl x)).mpr ⟨x, hx, hn, rfl⟩
   rw [hl] at this; cases this)
 ·intro key val kl y w' cnt' hkey hlk hv hat hr hlt hgr hsz hen
  obtain ⟨x, hx, hn, rfl⟩ := (h3 kl).mp hlk
  have hk : key = ndV x := nd_law.inj hkey (nd_key (h2.wf x hx))
  have hvy := hat (.lit (.bool false))
  rw [h2.val _ _ ((h2.has x (h2.wf x hx)).mpr hx)] at hvy
  have hval : val = .bool true := by
   refine plain_bool_inv (ps := y.2) Tryd.underlying4 ?_
   have : y = (DataW.lit (Lit.bool true), y.2) := by rw [hvy]
   rw [← this]; exact hv
  subst hk hval
  have hlen : done.length < r.length := by
   have hsub : (done ++ [x]).Nodup := List.nodup_append.mpr ⟨h5, by simp, fun a ha c hc e => hn (by rw [List.mem_singleton] at hc; rw [← hc, ← e]; exact ha)⟩
   have h6 := (@length_le_of_subset Nd (Classical.typeDecidableEq _) _ _ hsub (fun z hz => by
    rcases List.mem_append.mp hz with hz | hz
    ·exact h4 z hz
    ·rw [List.mem_singleton.mp hz]; exact hx))
   rw [List.length_append, List.length_singleton] at h6
   omega
  refine hMore x w' hx hn hlen ⟨D, _, cnt', hr, h2, fun l => ?_, fun z hz => ?_, ?_⟩ hgr hsz (by rw [hr.left_eq, h1.left_eq]; exact hlt) hen
  ·rw [Bool.and_eq_true, h3]
   constructor
   ·rintro ⟨⟨z, hz, hzn, rfl⟩, hne⟩
    refine ⟨z, hz, fun hm => ?_, rfl⟩
    rcases List.mem_append.mp hm with hm | hm
    ·exact hzn hm
    ·rw [List.mem_singleton.mp hm, WideAt.sameKey_self (nl_lit x)] at hne
     cases hne
   ·rintro ⟨z, hz, hzn, rfl⟩
    refine ⟨⟨z, hz, fun hm => hzn (List.mem_append_left _ hm), rfl⟩, ?_⟩
    rw [Maps.sameKey_ne (fun e => hzn (List.mem_append_right _ (by rw [nl_inj (h2.wf z hz) (h2.wf x hx) e]; simp)))]
    rfl
  ·rcases List.mem_append.mp hz with hz | hz
   ·exact h4 z hz
   ·rw [List.mem_singleton.mp hz]; exact hx
  ·exact List.nodup_append.mpr ⟨h5, by simp, fun a ha c hc e => hn (by rw [List.mem_singleton] at hc; rw [← hc, ← e]; exact ha)⟩
end
end Go.Proofs.YtgidnkmlnccaiaaDoor.Q
/- Set.Has, Set.Len, Of: by hand. -/
namespace Go.Proofs.YtgidnkmlnccaiaaDoor.Q
open Go.RowKit Go.Proofs.YtgidnkmlnccaiaaDoorW.PrintWords Go.Proofs.YtgidnkmlnccaiaaDoorW.PrintLast Go.Proofs.YtgidnkmlnccaiaaDoorW.PrintMore
set_option linter.unusedVariables false
set_option linter.unusedSimpArgs false
/-- A set's map: nil, or a block. -/
def SetO (w : World) (m : Option Nat) (r : List Nd) : Prop := match m with | none => r = [] | some b => SetR w b r
section
variable {w w1 : World} {m : Option Nat} {r : List Nd}
theorem SetO.below (h : SetO w m r) (hb : Below w.heap.size w w1) : SetO w1 m r := by
 cases m with
 | none => exact h
 | some b => exact SetR.below h hb
theorem SetO.alloc (h : SetO w m r) (o : Obj) : SetO (w.alloc o) m r := h.below (below_alloc (Below.refl _ _) o)
theorem SetO.up (h : SetO w m r) : Up r := by
 cases m with
 | none => cases (show r = [] from h); exact List.Pairwise.nil
 | some b => exact SetR.up h
theorem SetO.wf (h : SetO w m r) : ∀ x ∈ r, ndW x := by
 cases m with
 | none => cases (show r = [] from h); exact fun x hx => (nomatch hx)
 | some b => exact SetR.wf h
theorem SetO.lookup (h : SetO w m r) {x : Nd} (hx : ndW x) : (Instr.lookup tM (.map m) (ndV x) false).run Tryd.prog w = .ok (.bool (decB (x ∈ r))) w := by
 cases m with
 | none =>
  cases (show r = [] from h)
  rw [Maps.look_nil false nd_law Tryd.underlying48 (zeroNb w) (nd_key hx), decB_false (by simp)]
  rfl
 | some b => exact SetR.lookup h hx
theorem SetO.len (h : SetO w m r) (ty : TypeId) : (Builtin.len_ #[tM] ty #[.map m]).run Tryd.prog w = .ok (.int .i64 r.length) w := by
 cases m with
 | none =>
  cases (show r = [] from h)
  exact Maps.len_nil Tryd.underlying48 ty
 | some b => exact SetR.len h ty
end
set_option maxRecDepth 100000 in
set_option maxHeartbeats 4000000 in
theorem set_Has (m : Option Nat) (r : List Nd) (x : Nd) (w : World) (h : SetO w m r) (hx : ndW x) :
  Calls Tryd.prog 25 #[.agg #[.map m], ndV x] w fun e w' => e = .returned (.bool (decB (x ∈ r))) ∧ Below w.heap.size w w' := by
 have HB := Aside0.mk (below_alloc (below_alloc (Below.refl w.heap.size w) (.cells #[.map m] 50)) (.cells #[.int .i64 x.f0, .int .i64 x.f1, .string x.f2] 24))
 have hlk := ((h.alloc (.cells #[.map m] 50)).alloc (.cells #[.int .i64 x.f0, .int .i64 x.f1, .string x.f2] 24)).lookup hx
 clear h
 unfold ndV at hlk ⊢
 go_enter Tryd.func25, Tryd.ntmps25
 go_wp2
 go_ret
 exact ⟨rfl, HB.out⟩
set_option maxRecDepth 100000 in
set_option maxHeartbeats 4000000 in
theorem set_Len (m : Option Nat) (r : List Nd) (w : World) (h : SetO w m r) :
  Calls Tryd.prog 26 #[.agg #[.map m]] w fun e w' => e = .returned (.int .i64 r.length) ∧ Below w.heap.size w w' := by
 have HB := Aside0.mk (below_alloc (Below.refl w.heap.size w) (.cells #[.map m] 50))
 have hln := fun ty => (h.alloc (.cells #[.map m] 50)).len ty
 clear h
 go_enter Tryd.func26, Tryd.ntmps26
 go_wp2
 go_ret
 exact ⟨rfl, HB.out⟩
def ofL (l : List Nd) : List Nd := l.foldl addR []
theorem ofL_snoc (l : List Nd) (x : Nd) : ofL (l ++ [x]) = addR (ofL l) x := by unfold ofL; rw [List.foldl_append]; rfl
theorem addR_le (x : Nd) : ∀ r, (addR r x).length ≤ r.length + 1
 | [] => Nat.le_refl _
 | y :: r => by
  unfold addR
  split
  ·exact Nat.le_succ _
  ·split
   ·exact Nat.le_refl _
   ·rw [List.length_cons, List.length_cons]; have := addR_le x r; omega
theorem foldl_le : ∀ (l r : List Nd), (l.foldl addR r).length ≤ r.length + l.length
 | [], r => Nat.le_refl _
 | x :: l, r => by
  rw [List.foldl_cons, List.length_cons]
  have := foldl_le l (addR r x); have := addR_le x r; omega
theorem ofL_le (l : List Nd) : (ofL l).length ≤ l.length := by have := foldl_le l []; simpa [ofL] using this
theorem take_next {α : Type} (l : List α) (z : α) {i : Nat} (hi : i < l.length) : l.take (i + 1) = l.take i ++ [l.getD i z] := by
 rw [List.take_succ_eq_append_getElem hi, getD_at l z hi]
set_option maxRecDepth 100000 in
set_option maxHeartbeats 8000000 in
theorem node_Of (A0 : Option Addr) (c0 : Nat) (l0 : List Nd) (w : World) (hr0 : Kd.C k24 w A0 l0.length l0) (hc0 : l0.length ≤ c0) (hw : ∀ x ∈ l0, ndW x) (hlen : l0.length ≤ 1000000) :
  Calls Tryd.prog 17 #[.slice A0 l0.length c0] w fun e w' => ∃ b, e = .returned (.agg #[.map (some b)]) ∧ w.heap.size ≤ b ∧ SetR w' b (ofL l0) ∧ Below w.heap.size w w' := by
 have hmm := @run_makeMap Tryd.prog
 have HR := Aside0.mk hr0; have HW := Aside0.mk hw
 have hlx : l0.length ≤ 9223372036854775807 := by omega
 clear hr0 hw
 go_enter Tryd.func17, Tryd.ntmps17
 go_wp2_with fail
 have HM : Aside0 (SetR (((w.alloc (.cells #[.map none] 50)).alloc (.map #[] 0)).alloc (.cells #[.map (some (w.heap.size + 1))] 50)) (w.heap.size + 1) (ofL (l0.take 0))) := ⟨by
  have := (SetR.made (w.alloc (.cells #[.map none] 50))).alloc (.cells #[.map (some (w.heap.size + 1))] 50)
  rw [World.size_alloc] at this
  exact this⟩
 have HB : Aside0 (Below w.heap.size w (((w.alloc (.cells #[.map none] 50)).alloc (.map #[] 0)).alloc (.cells #[.map (some (w.heap.size + 1))] 50))) := ⟨below_alloc (below_alloc (below_alloc (Below.refl _ _) _) _) _⟩
 have HZ : Aside0 ((((w.alloc (.cells #[.map none] 50)).alloc (.map #[] 0)).alloc (.cells #[.map (some (w.heap.size + 1))] 50)).heap[w.heap.size]? = some (.cells #[.map none] 50 (0, 0))) := ⟨blk_alloc (blk_alloc (blk_new _ _) _) _⟩
 have HS : Aside0 ((((w.alloc (.cells #[.map none] 50)).alloc (.map #[] 0)).alloc (.cells #[.map (some (w.heap.size + 1))] 50)).heap[w.heap.size + 1 + 1]? = some (.cells #[.map (some (w.heap.size + 1))] 50 (0, 0))) := ⟨by
  have := blk_new ((w.alloc (.cells #[.map none] 50)).alloc (.map #[] 0)) (.cells #[.map (some (w.heap.size + 1))] 50)
  simpa using this⟩
 generalize (((w.alloc (.cells #[.map none] 50)).alloc (.map #[] 0)).alloc (.cells #[.map (some (w.heap.size + 1))] 50)) = w1 at HM HB HZ HS ⊢
 go_loopw [10] (fun v10 wr => ∃ i : Nat, v10 = .int .i64 i ∧ i ≤ l0.length ∧ Aside0 (SetR wr (w.heap.size + 1) (ofL (l0.take i))) ∧ Aside0 (Below w.heap.size w wr) ∧ Aside0 (wr.heap[w.heap.size]? = some (.cells #[.map none] 50 (0, 0))) ∧ Aside0 (wr.heap[w.heap.size + 1 + 1]? = some (.cells #[.map (some (w.heap.size + 1))] 50 (0, 0)))) (fun v10 _ => l0.length - (intOf v10).toNat)
 case atStart => exact ⟨0, rfl, Nat.zero_le _, HM, HB, HZ, HS⟩
 case round =>
  clear HM HB HZ HS
  obtain ⟨i, rfl, hi, HM, HB, HZ, HS⟩ := hrel
  by_cases hlt : i < l0.length
  ·obtain ⟨ad, e1, hx0, hx1, hx2⟩ := at_T24 (Kd.C_below HR.out HB.out) (i : Int) (by omega) (by omega)
   subst e1
   simp only [Int.toNat_natCast] at hx0 hx1 hx2
   obtain ⟨x, ex⟩ : ∃ x, x = rd_T24 l0 (i : Int) := ⟨_, rfl⟩
   rw [← ex] at hx0 hx1 hx2
   have hexg : l0.take (i + 1) = l0.take i ++ [x] := by
    rw [take_next l0 z24 hlt, ex]; rfl
   have hxw : ndW x := HW.out x (by
    rw [ex]; unfold rd_T24
    rw [Int.toNat_natCast, getD_at _ _ hlt]
    exact List.getElem_mem hlt)
   have hn : (ofL (l0.take i)).length < maxLen := by have := ofL_le (l0.take i); rw [List.length_take] at this; unfold maxLen; omega
   have HXW := Aside0.mk hxw; have HN := Aside0.mk hn; have HEX := Aside0.mk hexg
   have HM1 := Aside0.mk (HM.out.alloc (.cells #[.int .i64 x.f0, .int .i64 x.f1, .string x.f2] 24))
   have HB1 := Aside0.mk (below_alloc HB.out (.cells #[.int .i64 x.f0, .int .i64 x.f1, .string x.f2] 24))
   have HZ1 := Aside0.mk (blk_alloc HZ.out (.cells #[.int .i64 x.f0, .int .i64 x.f1, .string x.f2] 24))
   have HS1 := Aside0.mk (blk_alloc HS.out (.cells #[.int .i64 x.f0, .int .i64 x.f1, .string x.f2] 24))
   have hs0 := blk_cell HS1.out 0
   clear hxw hn hexg ex HM HB HZ HS
   go_wp2_with (at_mapUpdate; refine SetR.update_op HM1.out rfl (.tmp 15) (.tmp 16) (.const (.bool true)) rfl rfl HN.out x rfl rfl HXW.out ?_)
   intro w4 hs4 hg4
   have HM4 : Aside0 (SetR w4 (w.heap.size + 1) (ofL (l0.take (i + 1)))) := ⟨by rw [HEX.out, ofL_snoc]; exact hs4⟩
   have HB4 : Aside0 (Below w.heap.size w w4) := ⟨HB1.out.grown hg4 HB1.out.size (fun j hj => by injection hj with hj; omega)⟩
   have HZ4 := Aside0.mk (blk_grown HZ1.out hg4 (by simp))
   have HS4 := Aside0.mk (blk_grown HS1.out hg4 (by simp))
   clear hs4 hg4 hx0 hx1 hx2 hs0 HM1 HB1 HZ1 HS1
   go_wp2
   go_roundw
   case rel => exact ⟨i + 1, by go_num, by omega, HM4, HB4, HZ4, HS4⟩
   case measure => simp [intOf]; omega
  ·have hie : i = l0.length := by omega
   have HM9 : Aside0 (SetR wr (w.heap.size + 1) (ofL l0)) := ⟨by have h := HM.out; rw [hie, List.take_length] at h; exact h⟩
   clear HM
   have hs0 := bk1 HS.out; have hz0 := bk1 HZ.out
   have HBS := Aside0.mk (HB.out.setCell (p := ⟨w.heap.size, 0, none⟩) (Nat.le_refl _) (.map (some (w.heap.size + 1))))
   have HZ9 := Aside0.mk (blk_put HZ.out 0 (.map (some (w.heap.size + 1))) rfl)
   have HM10 := Aside0.mk (HM9.out.kept (grownBy_setCell' wr w.heap.size (.map (some (w.heap.size + 1)))) (by simp))
   clear HS HM9 HZ
   go_wp2
   generalize wr.setCell ⟨w.heap.size, 0, none⟩ (.map (some (w.heap.size + 1))) = w9 at HBS HZ9 HM10 ⊢
   refine bodyPost_ret (results_cell_row rfl _ _ w.heap.size 50 #[.map (some (w.heap.size + 1))] (0, 0) _ rfl HZ9.out Tryd.underlying50 rfl (by kernel_rfl)) rfl ?_
   exact ⟨_, rfl, by omega, HM10.out, HBS.out⟩
/-- A walk over a set that may be nil. -/
def RunO (w : World) (m : Option Nat) (q : Nat) (r done : List Nd) : Prop := match m with
 | none => r = [] ∧ done = [] ∧ ∃ a s b, w.heap[q]? = some (.mapIter none a s b)
 | some b => RunR w b q r done
def leftO (m : Option Nat) (q : Nat) (w : World) : Nat := match m with | none => 0 | some b => w.rangeLeft b q
theorem run_next_nil {w : World} {q : Nat} {a : Nat} {s : Array Nat} {b : Nat} (h : w.heap[q]? = some (.mapIter none a s b)) (ty : TypeId) :
  (Instr.next (.pointer (some ⟨q, 0, none⟩)) false ty).run Tryd.prog w = .ok (.tuple #[.bool false]) w := by
 simp only [Instr.next, getObj, Sem.run_bind, Sem.run, h, Result.andThen]
 rfl
section
variable {w w1 : World} {m : Option Nat} {q : Nat} {r done : List Nd}
theorem SetO.kept (h : SetO w m r) {row : Option Nat} (hg : w.grownBy w1 row) (hb : ∀ b, m = some b → some b ≠ row) : SetO w1 m r := by
 cases m with
 | none => exact h
 | some b => exact SetR.kept h hg (hb b rfl)
theorem SetO.ne (h : SetO w m r) {q : Nat} (hq : q = w.heap.size) : ∀ b, m = some b → some b ≠ some q := by
 rintro b rfl e
 have := SetR.lt h
 injection e with e; omega
theorem RunO.set (h : RunO w m q r done) : SetO w m r := by
 cases m with
 | none => exact h.1
 | some b => exact RunR.set h
theorem RunO.lt (h : RunO w m q r done) : q < w.heap.size := by
 cases m with
 | none =>
  obtain ⟨_, _, a, s, b, hb⟩ := h
  exact (Array.getElem?_eq_some_iff.mp hb).1
 | some b => exact RunR.lt h
theorem RunO.kept (h : RunO w m q r done) {row : Option Nat} (hg : w.grownBy w1 row) (hb : ∀ b, m = some b → some b ≠ row) (hq : some q ≠ row) : RunO w1 m q r done := by
 have hlt := h.lt
 cases m with
 | none =>
  obtain ⟨h1, h2, a, s, b, hb⟩ := h
  exact ⟨h1, h2, a, s, b, (hg.block q hlt hq).trans hb⟩
 | some b => exact RunR.kept h hg (hb b rfl) hq
theorem RunO.below (h : RunO w m q r done) (hb : Below w.heap.size w w1) : RunO w1 m q r done := h.kept (grown_of_below hb none) (by simp) (by simp)
theorem RunR.left_alloc {b : Nat} (h : RunR w b q r done) (o : Obj) : (w.alloc o).rangeLeft b q = w.rangeLeft b q := by
 unfold World.rangeLeft
 rw [heap_alloc_old w o h.lt, heap_alloc_old w o h.set.lt]
theorem left_alloc (h : RunO w m q r done) (o : Obj) : leftO m q (w.alloc o) = leftO m q w := by
 cases m with
 | none => rfl
 | some b => exact RunR.left_alloc h o
theorem left_kept (h : RunO w m q r done) {row : Option Nat} (hg : w.grownBy w1 row) (hb : ∀ b, m = some b → some b ≠ row) (hq : some q ≠ row) : leftO m q w1 = leftO m q w := by
 cases m with
 | none => rfl
 | some b =>
  show w1.rangeLeft b q = w.rangeLeft b q
  have h1 := hg.block q h.lt hq
  have h2 := hg.block b (SetR.lt h.set) (hb b rfl)
  unfold World.rangeLeft
  rw [h1, h2]
theorem RunO.start_op {ops : Array Oper} {rest : List Oper} {o : Oper} {a : Act} {Q : Exit → Act → World → Prop} (h : SetO w m r) (hg : o.guard = none) (x : Operand) (hop : o.op = Op.range tM x) (hm : a.eval x = .map m)
  (hK : ∀ w', RunO w' m w.heap.size r [] → Below w.heap.size w w' → wpList Tryd.prog ops Q rest (a.put o.dst (.pointer (some ⟨w.heap.size, 0, none⟩))) w') : wpList Tryd.prog ops Q (o :: rest) a w := by
 cases m with
 | none =>
  cases (show r = [] from h)
  refine wpList_plain hg fun K' hK' => ?_
  unfold Oper.wp
  simp [execOp, hop, hm, run_range_nilMap w tM _ _ Tryd.underlying48, Result.andThen]
  exact hK' _ _ (hK _ ⟨rfl, rfl, 0, #[], 0, heap_alloc_new _ _⟩ (below_alloc (Below.refl _ _) _))
 | some b => exact RunR.start_op h hg x hop hm hK
theorem RunO.next_op {ops : Array Oper} {rest : List Oper} {o : Oper} {a : Act} {Q : Exit → Act → World → Prop} (h : RunO w m q r done) (hg : o.guard = none) (it : Operand) (hop : o.op = Op.next it false) (hit : a.eval it = .pointer (some ⟨q, 0, none⟩))
  (hDone : done.Perm r → wpList Tryd.prog ops Q rest (a.put o.dst (.tuple #[.bool false])) w)
  (hMore : ∀ (x : Nd) (w' : World), x ∈ r → x ∉ done → done.length < r.length → RunO w' m q r (done ++ [x]) → w.grownBy w' (some q) → w'.heap.size = w.heap.size → leftO m q w' < leftO m q w → (Instr.entry (.pointer (some ⟨q, 0, none⟩))).run Tryd.prog w' = .ok (.tuple #[ndV x, .bool true]) w' → wpList Tryd.prog ops Q rest (a.put o.dst (.tuple #[.bool true, ndV x, .bool true])) w') :
  wpList Tryd.prog ops Q (o :: rest) a w := by
 cases m with
 | none =>
  obtain ⟨rfl, rfl, a1, s1, b1, hb⟩ := h
  refine wpList_plain hg fun K' hK' => ?_
  unfold Oper.wp
  simp [execOp, hop, hit, run_next_nil hb, Result.andThen]
  exact hK' _ _ (hDone (List.Perm.refl _))
 | some b => exact RunR.next_op h hg it hop hit hDone hMore
end
set_option maxRecDepth 100000 in
set_option maxHeartbeats 8000000 in
theorem set_Within (m n : Option Nat) (r s : List Nd) (w : World) (h : SetO w m r) (h2 : SetO w n s) :
  Calls Tryd.prog 23 #[.agg #[.map m], .agg #[.map n]] w fun e w' => e = .returned (.bool (decB (∀ x ∈ r, x ∈ s))) ∧ Below w.heap.size w w' := by
 have HB := Aside0.mk (below_alloc (below_alloc (Below.refl w.heap.size w) (.cells #[.map m] 50)) (.cells #[.map n] 50))
 have HM := Aside0.mk ((h.alloc (.cells #[.map m] 50)).alloc (.cells #[.map n] 50))
 have HN := Aside0.mk ((h2.alloc (.cells #[.map m] 50)).alloc (.cells #[.map n] 50))
 have HQ := Aside0.mk (HB.out.size)
 clear h h2
 go_enter Tryd.func23, Tryd.ntmps23
 go_wp2_with (at_range; refine RunO.start_op HM.out rfl (.tmp 7) rfl rfl ?_)
 intro w1 hr hb0
 have hb : Below ((w.alloc (.cells #[.map m] 50)).alloc (.cells #[.map n] 50)).heap.size ((w.alloc (.cells #[.map m] 50)).alloc (.cells #[.map n] 50)) w1 := by rw [World.size_alloc, World.size_alloc]; exact hb0
 have HR := Aside0.mk hr
 have HT : Aside0 (w1.heap[w.heap.size + 1]? = some (.cells #[.map n] 50 (0, 0))) := ⟨by
  have := blk_new (w.alloc (.cells #[.map m] 50)) (.cells #[.map n] 50)
  have := blk_below this hb
  rw [World.size_alloc] at this
  exact this⟩
 have HN1 := Aside0.mk (HN.out.below hb)
 have HNE := Aside0.mk (HN.out.ne (q := w.heap.size + 1 + 1) (by rw [World.size_alloc, World.size_alloc]))
 have HB1 := Aside0.mk (below_step HB.out hb)
 have HQ1 := Aside0.mk (show w.heap.size ≤ w.heap.size + 1 + 1 by omega)
 have HQ2 := Aside0.mk (show w.heap.size + 1 ≠ w.heap.size + 1 + 1 by omega)
 clear hr hb hb0 HN HB HM HQ
 generalize w.heap.size + 1 + 1 = q at HR HQ1 HQ2 HNE ⊢
 go_wp2_with fail
 go_loopw [9] (fun _ wr => ∃ done : List Nd, Aside0 (RunO wr m q r done) ∧ Aside0 (SetO wr n s) ∧ Aside0 (Below w.heap.size w wr) ∧ Aside0 (wr.heap[w.heap.size + 1]? = some (.cells #[.map n] 50 (0, 0))) ∧ Aside0 (∀ x ∈ done, x ∈ s)) (fun _ wr => leftO m q wr)
 case atStart => exact ⟨[], HR, HN1, HB1, HT, ⟨fun x hx => (nomatch hx)⟩⟩
 case round =>
  clear HR HN1 HB1 HT
  obtain ⟨done, HR, HN, HB, HT, HD⟩ := hrel
  go_wp2_with (at_next; refine RunO.next_op HR.out rfl (.tmp 8) rfl rfl ?_ ?_)
  ·intro hperm
   have hd : decB (∀ x ∈ r, x ∈ s) = true := decB_true (fun x hx => HD.out x (hperm.mem_iff.mpr hx))
   clear hperm
   go_wp2
   go_ret
   exact ⟨by rw [hd]; rfl, HB.out⟩
  ·intro x w2 hx hn hl hr2 hg hsz hlt hen
   have hxw : ndW x := HR.out.set.wf x hx
   have HN2 := (HN.out.kept hg HNE.out).alloc (.cells #[.int .i64 x.f0, .int .i64 x.f1, .string x.f2] 24)
   have HR2 := Aside0.mk (hr2.below (below_alloc (Below.refl _ _) (.cells #[.int .i64 x.f0, .int .i64 x.f1, .string x.f2] 24)))
   have HB2 := Aside0.mk (below_alloc (HB.out.grown hg HB.out.size (fun j hj => by injection hj with hj; have := HQ1.out; omega)) (.cells #[.int .i64 x.f0, .int .i64 x.f1, .string x.f2] 24))
   have HT2 := Aside0.mk (blk_alloc (blk_grown HT.out hg (by have := HQ2.out; simpa using this)) (.cells #[.int .i64 x.f0, .int .i64 x.f1, .string x.f2] 24))
   have HLT : Aside0 (leftO m q (w2.alloc (.cells #[.int .i64 x.f0, .int .i64 x.f1, .string x.f2] 24)) < leftO m q wr) := ⟨by
    have e : leftO m q (w2.alloc (.cells #[.int .i64 x.f0, .int .i64 x.f1, .string x.f2] 24)) = leftO m q w2 := left_alloc hr2 _
    rw [e]; exact hlt⟩
   have HX := Aside0.mk hx; have HSZ := Aside0.mk hsz
   have ht := bk1 HT2.out
   have hlk := HN2.lookup hxw
   unfold ndV at hen hlk ⊢
   have HN3 := Aside0.mk HN2
   clear hr2 hlt hx hn hl hsz hg HN HR HB HT hxw HN2
   by_cases hxs : x ∈ s
   ·rw [decB_true hxs] at hlk
    have HXS := Aside0.mk hxs
    clear hxs
    go_wp2
    go_roundw
    case rel => exact ⟨done ++ [x], HR2, HN3, HB2, HT2, ⟨fun z hz => by
     rcases List.mem_append.mp hz with hz | hz
     ·exact HD.out z hz
     ·rw [List.mem_singleton.mp hz]; exact HXS.out⟩⟩
    case measure => exact HLT.out
   ·rw [decB_false hxs] at hlk
    have hd : decB (∀ x ∈ r, x ∈ s) = false := decB_false (fun h => hxs (h x HX.out))
    clear hxs
    go_wp2
    go_ret
    exact ⟨by rw [hd]; rfl, HB2.out⟩
/-- Those of a type. -/
def typedL (typ : ByteArray) (r : List Nd) : List Nd := r.filter (fun x => decide (x.f2 = typ))
theorem ofL_mem (z : Nd) (l : List Nd) : z ∈ ofL l ↔ z ∈ l := by
 have : ∀ (l r : List Nd), z ∈ l.foldl addR r ↔ z ∈ r ∨ z ∈ l := by
  intro l
  induction l with
  | nil => intro r; simp
  | cons x l ih =>
   intro r
   rw [List.foldl_cons, ih, addR_mem, List.mem_cons]
   exact or_assoc
 unfold ofL
 rw [this]; simp
theorem ofL_up (l : List Nd) : Up (ofL l) := by
 have : ∀ (l r : List Nd), Up r → Up (l.foldl addR r) := by
  intro l
  induction l with
  | nil => intro r h; exact h
  | cons x l ih => intro r h; exact ih _ (addR_up h)
 exact this l [] List.Pairwise.nil
theorem ofL_eq {l r : List Nd} (hr : Up r) (h : ∀ x, x ∈ l ↔ x ∈ r) : ofL l = r := up_ext (ofL_up l) hr (fun x => (ofL_mem x l).trans (h x))
theorem typedL_snoc (typ : ByteArray) (l : List Nd) (x : Nd) : typedL typ (l ++ [x]) = if x.f2 = typ then typedL typ l ++ [x] else typedL typ l := by
 unfold typedL
 rw [List.filter_append]
 by_cases h : x.f2 = typ
 ·rw [if_pos h]; simp [h]
 ·rw [if_neg h]; simp [h]
set_option maxRecDepth 100000 in
set_option maxHeartbeats 8000000 in
theorem set_Typed (m : Option Nat) (r : List Nd) (typ : ByteArray) (w : World) (h : SetO w m r) (hlen : r.length ≤ 1000000) :
  Calls Tryd.prog 24 #[.agg #[.map m], .string typ] w fun e w' => ∃ b, e = .returned (.agg #[.map (some b)]) ∧ w.heap.size ≤ b ∧ SetR w' b (typedL typ r) ∧ Below w.heap.size w w' := by
 have HB := Aside0.mk (below_alloc (below_alloc (Below.refl w.heap.size w) (.cells #[.map m] 50)) (.cells #[.map none] 50))
 have HM := Aside0.mk ((h.alloc (.cells #[.map m] 50)).alloc (.cells #[.map none] 50))
 have HT : Aside0 (((w.alloc (.cells #[.map m] 50)).alloc (.cells #[.map none] 50)).heap[w.heap.size]? = some (.cells #[.map m] 50 (0, 0))) := ⟨blk_alloc (blk_new _ _) _⟩
 have HZ : Aside0 (((w.alloc (.cells #[.map m] 50)).alloc (.cells #[.map none] 50)).heap[w.heap.size + 1]? = some (.cells #[.map none] 50 (0, 0))) := ⟨by
  have := blk_new (w.alloc (.cells #[.map m] 50)) (.cells #[.map none] 50)
  rw [World.size_alloc] at this
  exact this⟩
 have HSZ : Aside0 (((w.alloc (.cells #[.map m] 50)).alloc (.cells #[.map none] 50)).heap.size = w.heap.size + 1 + 1) := ⟨by rw [World.size_alloc, World.size_alloc]⟩
 clear h
 go_enter Tryd.func24, Tryd.ntmps24
 go_wp2_with fail
 generalize ((w.alloc (.cells #[.map m] 50)).alloc (.cells #[.map none] 50)) = w1 at HB HM HT HZ HSZ ⊢
 refine (node_Of none 0 [] w1 (Kd.C_nil _ _) (Nat.le_refl _) (fun x hx => (nomatch hx)) (Nat.zero_le _)).mono ?_
 rintro e w2 ⟨b, rfl, hb1, hs, hb2⟩
 have HS : Aside0 (SetR (w2.alloc (.cells #[.map (some b)] 50)) b []) := ⟨hs.alloc _⟩
 have hbl : Below w1.heap.size w1 (w2.alloc (.cells #[.map (some b)] 50)) := below_alloc hb2 _
 have HB2 := Aside0.mk (below_step HB.out hbl)
 have HM2 := Aside0.mk (HM.out.below hbl)
 have HT2 := Aside0.mk (blk_below HT.out hbl)
 have HZ2 := Aside0.mk (blk_below HZ.out hbl)
 have HS2 : Aside0 ((w2.alloc (.cells #[.map (some b)] 50)).heap[w2.heap.size]? = some (.cells #[.map (some b)] 50 (0, 0))) := ⟨blk_new _ _⟩
 have HMB : Aside0 (∀ b', m = some b' → some b' ≠ some b) := ⟨by
  rintro b' rfl e
  have := SetR.lt (show SetR w1 b' r from HM.out)
  injection e with e; omega⟩
 have HBL : Aside0 (b < w2.heap.size) := ⟨hs.lt⟩
 have HBG : Aside0 (w.heap.size + 1 + 1 ≤ b) := ⟨by rw [← HSZ.out]; exact hb1⟩
 clear hb1 hs hb2 hbl HB HM HT HZ HSZ
 go_upto_region 2 with (fail)
 generalize w2.alloc (.cells #[.map (some b)] 50) = w3 at HS HB2 HM2 HT2 HZ2 HS2 ⊢
 generalize w2.heap.size = gs at HS2 HBL ⊢
 have HGS : Aside0 (gs < w3.heap.size) := ⟨blk_lt HS2.out⟩
 have ht := bk1 HT2.out
 go_wp2_with (at_range; refine RunO.start_op HM2.out rfl (.tmp 9) rfl rfl ?_)
 clear ht
 intro w4 hr hb
 have HS4 := Aside0.mk (HS.out.below hb)
 have HB4 := Aside0.mk (below_step HB2.out hb)
 have HZ4 := Aside0.mk (blk_below HZ2.out hb)
 have HG4 := Aside0.mk (blk_below HS2.out hb)
 have HR4 := Aside0.mk hr
 clear hb hr HS HB2 HM2 HT2 HZ2 HS2
 generalize w3.heap.size = q at HGS HR4 ⊢
 go_wp2_with fail
 have HQB : Aside0 (b < q) := ⟨by have := HGS.out; have := HBL.out; omega⟩
 go_loopw [11] (fun _ wr => ∃ done : List Nd, Aside0 (RunO wr m q r done) ∧ Aside0 (SetR wr b (ofL (typedL typ done))) ∧ Aside0 (Below w.heap.size w wr) ∧ Aside0 (wr.heap[w.heap.size + 1]? = some (.cells #[.map none] 50 (0, 0))) ∧ Aside0 (wr.heap[gs]? = some (.cells #[.map (some b)] 50 (0, 0))) ∧ Aside0 (done.length ≤ r.length)) (fun _ wr => leftO m q wr)
 case atStart => exact ⟨[], HR4, HS4, HB4, HZ4, HG4, ⟨Nat.zero_le _⟩⟩
 case round =>
  clear HR4 HS4 HB4 HZ4 HG4
  obtain ⟨done, HR, HS, HB, HZ, HG, HD⟩ := hrel
  go_wp2_with (at_next; refine RunO.next_op HR.out rfl (.tmp 10) rfl rfl ?_ ?_)
  ·intro hperm
   have hof : ofL (typedL typ done) = typedL typ r := ofL_eq (HR.out.set.up.filter _) (fun x => (hperm.filter _).mem_iff)
   have HS1 : Aside0 (SetR wr b (typedL typ r)) := ⟨by rw [← hof]; exact HS.out⟩
   clear hperm hof HS
   have hs0 := bk1 HG.out; have hz0 := bk1 HZ.out
   have HBS := Aside0.mk (HB.out.setCell (p := ⟨w.heap.size + 1, 0, none⟩) (Nat.le_succ _) (.map (some b)))
   have HZ9 := Aside0.mk (blk_put HZ.out 0 (.map (some b)) rfl)
   have HM10 := Aside0.mk (HS1.out.kept (grownBy_setCell' wr (w.heap.size + 1) (.map (some b))) (by have := HBG.out; simp; omega))
   clear HS1 HZ
   go_wp2
   generalize wr.setCell ⟨w.heap.size + 1, 0, none⟩ (.map (some b)) = w9 at HBS HZ9 HM10 ⊢
   refine bodyPost_ret (results_cell_row rfl _ _ (w.heap.size + 1) 50 #[.map (some b)] (0, 0) _ rfl HZ9.out Tryd.underlying50 rfl (by kernel_rfl)) rfl ?_
   exact ⟨_, rfl, by have := HBG.out; omega, HM10.out, HBS.out⟩
  ·intro x w5 hx hn hl hr2 hg hsz hlt hen
   have hxw : ndW x := HR.out.set.wf x hx
   have HN2 : Aside0 (SetR (w5.alloc (.cells #[.int .i64 x.f0, .int .i64 x.f1, .string x.f2] 24)) b (ofL (typedL typ done))) := ⟨(HS.out.kept hg (by have := HQB.out; simp; omega)).alloc _⟩
   have HR2 := Aside0.mk (hr2.below (below_alloc (Below.refl _ _) (.cells #[.int .i64 x.f0, .int .i64 x.f1, .string x.f2] 24)))
   have HGW : Aside0 (w.heap.size ≤ q) := ⟨by have := HQB.out; have := HBG.out; omega⟩
   have HB2 := Aside0.mk (below_alloc (HB.out.grown hg HB.out.size (fun j hj => by injection hj with hj; have := HGW.out; omega)) (.cells #[.int .i64 x.f0, .int .i64 x.f1, .string x.f2] 24))
   have HZ2 := Aside0.mk (blk_alloc (blk_grown HZ.out hg (by have := HQB.out; have := HBG.out; simp; omega)) (.cells #[.int .i64 x.f0, .int .i64 x.f1, .string x.f2] 24))
   have HG2 := Aside0.mk (blk_alloc (blk_grown HG.out hg (by have := HGS.out; simp; omega)) (.cells #[.int .i64 x.f0, .int .i64 x.f1, .string x.f2] 24))
   have HLT : Aside0 (leftO m q (w5.alloc (.cells #[.int .i64 x.f0, .int .i64 x.f1, .string x.f2] 24)) < leftO m q wr) := ⟨by
    rw [left_alloc hr2 _]; exact hlt⟩
   have HX := Aside0.mk hx; have HSZ := Aside0.mk hsz; have HXW := Aside0.mk hxw
   have HLN : Aside0 ((done ++ [x]).length ≤ r.length) := ⟨by rw [List.length_append, List.length_singleton]; omega⟩
   have ht := bk1 HG2.out
   unfold ndV at hen ⊢
   clear hr2 hlt hx hn hl hsz hg HR HB HS HZ HG hxw
   by_cases hxs : x.f2 = typ
   ·have hc : (x.f2.toList == typ.toList) = true := by rw [hxs]; exact beq_self_eq_true _
    have HXS := Aside0.mk hxs
    clear hxs
    have HN : Aside0 ((ofL (typedL typ done)).length < maxLen) := ⟨by
     have h1 := ofL_le (typedL typ done)
     have h2 : (typedL typ done).length ≤ done.length := List.length_filter_le _ _
     have := HD.out
     unfold maxLen; omega⟩
    go_wp2_with (at_mapUpdate; refine SetR.update_op HN2.out rfl (.tmp 20) (.tmp 21) (.const (.bool true)) rfl rfl HN.out x rfl rfl HXW.out ?_)
    intro w6 hs6 hg6
    have HT3 : Aside0 (SetR w6 b (ofL (typedL typ (done ++ [x])))) := ⟨by rw [typedL_snoc, if_pos HXS.out, ofL_snoc]; exact hs6⟩
    have HLT6 : Aside0 (leftO m q w6 < leftO m q wr) := ⟨by
     rw [left_kept HR2.out hg6 HMB.out (by have := HQB.out; simp; omega)]; exact HLT.out⟩
    have HR6 := Aside0.mk (HR2.out.kept hg6 HMB.out (by have := HQB.out; simp; omega))
    have HB6 := Aside0.mk (HB2.out.grown hg6 HB2.out.size (fun j hj => by injection hj with hj; have := HBG.out; omega))
    have HZ6 := Aside0.mk (blk_grown HZ2.out hg6 (by have := HBG.out; simp; omega))
    have HG6 := Aside0.mk (blk_grown HG2.out hg6 (by have := HBL.out; simp; omega))
    clear hs6 hg6 HN2 HR2 HB2 HZ2 HG2 HLT ht hc
    go_wp2
    go_roundw
    case rel => exact ⟨done ++ [x], HR6, HT3, HB6, HZ6, HG6, HLN⟩
    case measure => exact HLT6.out
   ·have hc : (x.f2.toList == typ.toList) = false := beq_eq_false_iff_ne.mpr (fun e => hxs (bytes_eq e))
    have HT3 : Aside0 (SetR (w5.alloc (.cells #[.int .i64 x.f0, .int .i64 x.f1, .string x.f2] 24)) b (ofL (typedL typ (done ++ [x])))) := ⟨by rw [typedL_snoc, if_neg hxs]; exact HN2.out⟩
    clear hxs HN2
    go_wp2
    go_roundw
    case rel => exact ⟨done ++ [x], HR2, HT3, HB2, HZ2, HG2, HLN⟩
    case measure => exact HLT.out
end Go.Proofs.YtgidnkmlnccaiaaDoor.Q
/- maps.Keys of a set, slices.AppendSeq, Collect (after the kit's GgCollectAtTheDump, elements being nodes): by hand. -/
namespace Go.Proofs.YtgidnkmlnccaiaaDoor.Q
open Go.RowKit Go.Proofs.YtgidnkmlnccaiaaDoorW.PrintWords Go.Proofs.YtgidnkmlnccaiaaDoorW.PrintLast Go.Proofs.YtgidnkmlnccaiaaDoorW.PrintMore
set_option linter.unusedVariables false
set_option linter.unusedSimpArgs false
open Go.Maps Go.Sort Go.Shelf
section
variable {F : Fence} {n : Nat} {w w1 : World} {m : Option Nat} {q : Nat} {r done : List Nd} {ops : Array Oper} {rest : List Oper} {o : Oper} {a : Act} {Q : Exit → Act → World → Prop}
theorem RunO.walks (h : RunO w m q r done) (hk : KeepsWalks w w1) : RunO w1 m q r done := by
 cases m with
 | none =>
  obtain ⟨h1, h2, a, s, b, hb⟩ := h
  exact ⟨h1, h2, a, s, b, hk.same q _ hb rfl⟩
 | some b =>
  obtain ⟨D, left, cnt, h1, h2⟩ := h
  exact ⟨D, left, cnt, h1.of_walks hk, h2⟩
theorem RunO.left_walks (h : RunO w m q r done) (hk : KeepsWalks w w1) : leftO m q w1 = leftO m q w := by
 cases m with
 | none => rfl
 | some b =>
  obtain ⟨D, left, cnt, h1, h2⟩ := h
  show w1.rangeLeft b q = w.rangeLeft b q
  rw [(h1.of_walks hk).left_eq, h1.left_eq]
theorem RunO.iter_walk (h : RunO w m q r done) : ∃ o : Obj, w.heap[q]? = some o ∧ o.isWalk = true := by
 cases m with
 | none =>
  obtain ⟨h1, h2, a, s, b, hb⟩ := h
  exact ⟨_, hb, rfl⟩
 | some b =>
  obtain ⟨D, left, cnt, h1, h2⟩ := h
  exact h1.iter_walk
theorem RunO.start_in (h : SetO w m r) (hg : o.guard = none) (x : Operand) (hop : o.op = Op.range tM x) (hm : a.eval x = .map m)
  (hK : ∀ w', RunO w' m w.heap.size r [] → w.grownBy w' none → wpListIn F n Tryd.prog ops Q rest (a.put o.dst (.pointer (some ⟨w.heap.size, 0, none⟩))) w') : wpListIn F n Tryd.prog ops Q (o :: rest) a w := by
 cases m with
 | none =>
  cases (show r = [] from h)
  refine wpListIn_plain hg fun K' hK' => ?_
  unfold Oper.wpIn
  refine ⟨by simp [Oper.about, hop], ?_⟩
  rw [Oper.semAt_plain F _ _ (by rw [hop]; intro c hc'; cases hc')]
  simp [execOp, hop, hm, run_range_nilMap w tM _ _ Tryd.underlying48, Result.andThen]
  exact hK' _ _ (hK _ ⟨rfl, rfl, 0, #[], 0, heap_alloc_new _ _⟩ (World.grownBy_alloc w _ none))
 | some b =>
  obtain ⟨D, h1, h2⟩ := (show SetR w b r from h)
  refine wpListIn_range_own w hg x tM hop 24 4 nd_law Tryd.underlying48 (plainElem Tryd.prog 4) b _ D hm h1 ?_
  intro w' hr hgr _
  refine hK w' ⟨D, _, _, hr, h2, fun l => ?_, fun x hx => (nomatch hx), List.nodup_nil⟩ hgr
  constructor
  ·intro hl
   obtain ⟨x, hx, e⟩ := h2.keys l hl
   exact ⟨x, hx, by simp, e⟩
  ·rintro ⟨x, hx, _, rfl⟩
   exact (h2.has x (h2.wf x hx)).mpr hx
/-- The step of a walk: as Oper.wp's, inside a fence. -/
theorem next_in_of (hg : o.guard = none) (it : Operand) (hop : o.op = Op.next it false) (hit : a.eval it = .pointer (some ⟨q, 0, none⟩))
  {v : Value} {w' : World} (hrun : (Instr.next (.pointer (some ⟨q, 0, none⟩)) false o.type).run Tryd.prog w = .ok v w') (hK : wpListIn F n Tryd.prog ops Q rest (a.put o.dst v) w') : wpListIn F n Tryd.prog ops Q (o :: rest) a w := by
 refine wpListIn_plain hg fun K' hK' => ?_
 unfold Oper.wpIn
 refine ⟨by simp [Oper.about, hop], ?_⟩
 rw [Oper.semAt_plain F _ _ (by rw [hop]; intro c hc'; cases hc')]
 simp [execOp, hop, hit, hrun, Result.andThen]
 exact hK' _ _ hK
/-- What the step does. -/
theorem RunO.next_run (h : RunO w m q r done) (ty : TypeId) :
  (done.Perm r ∧ (Instr.next (.pointer (some ⟨q, 0, none⟩)) false ty).run Tryd.prog w = .ok (.tuple #[.bool false]) w) ∨
  ∃ (x : Nd) (w' : World), x ∈ r ∧ done.length < r.length ∧ RunO w' m q r (done ++ [x]) ∧ w.grownBy w' (some q) ∧ leftO m q w' < leftO m q w ∧ (Instr.entry (.pointer (some ⟨q, 0, none⟩))).run Tryd.prog w' = .ok (.tuple #[ndV x, .bool true]) w' ∧
   (Instr.next (.pointer (some ⟨q, 0, none⟩)) false ty).run Tryd.prog w = .ok (.tuple #[.bool true, ndV x, .bool true]) w' := by
 cases m with
 | none =>
  obtain ⟨rfl, rfl, a1, s1, b1, hb⟩ := h
  exact .inl ⟨List.Perm.refl _, run_next_nil hb ty⟩
 | some b =>
  obtain ⟨D, left, cnt, h1, h2, h3, h4, h5⟩ := h
  rcases h1.next nd_law ty with ⟨h0, hl, hrun⟩ | ⟨key, val, kl, y, w', cnt', hkey, hlk, hv, hat, hrun, hr, hlt, hgr, hsz, hen⟩
  ·refine .inl ⟨(List.perm_ext_iff_of_nodup h5 h2.up.nodup).mpr (fun x => ⟨h4 x, fun hx => ?_⟩), hrun⟩
   exact Classical.byContradiction (fun hn => by
    have := (h3 (nl x)).mpr ⟨x, hx, hn, rfl⟩
    rw [hl] at this; cases this)
  ·obtain ⟨x, hx, hn, rfl⟩ := (h3 kl).mp hlk
   have hk : key = ndV x := nd_law.inj hkey (nd_key (h2.wf x hx))
   have hvy := hat (.lit (.bool false))
   rw [h2.val _ _ ((h2.has x (h2.wf x hx)).mpr hx)] at hvy
   have hval : val = .bool true := by
    refine plain_bool_inv (ps := y.2) Tryd.underlying4 ?_
    have : y = (DataW.lit (Lit.bool true), y.2) := by rw [hvy]
    rw [← this]; exact hv
   subst hk hval
   have hnd : (done ++ [x]).Nodup := List.nodup_append.mpr ⟨h5, by simp, fun a ha c hc e => hn (by rw [List.mem_singleton] at hc; rw [← hc, ← e]; exact ha)⟩
   have hsub : ∀ z ∈ done ++ [x], z ∈ r := fun z hz => by
    rcases List.mem_append.mp hz with hz | hz
    ·exact h4 z hz
    ·rw [List.mem_singleton.mp hz]; exact hx
   have hlen : done.length < r.length := by
    have h6 := @length_le_of_subset Nd (Classical.typeDecidableEq _) _ _ hnd hsub
    rw [List.length_append, List.length_singleton] at h6
    omega
   refine .inr ⟨x, w', hx, hlen, ⟨D, _, cnt', hr, h2, fun l => ?_, hsub, hnd⟩, hgr, ?_, hen, hrun⟩
   ·rw [Bool.and_eq_true, h3]
    constructor
    ·rintro ⟨⟨z, hz, hzn, rfl⟩, hne⟩
     refine ⟨z, hz, fun hm => ?_, rfl⟩
     rcases List.mem_append.mp hm with hm | hm
     ·exact hzn hm
     ·rw [List.mem_singleton.mp hm, WideAt.sameKey_self (nl_lit x)] at hne
      cases hne
    ·rintro ⟨z, hz, hzn, rfl⟩
     refine ⟨⟨z, hz, fun hm => hzn (List.mem_append_left _ hm), rfl⟩, ?_⟩
     rw [Maps.sameKey_ne (fun e => hzn (List.mem_append_right _ (by rw [nl_inj (h2.wf z hz) (h2.wf x hx) e]; simp)))]
     rfl
   ·show w'.rangeLeft b q < w.rangeLeft b q
    rw [hr.left_eq, h1.left_eq]; exact hlt
end
abbrev kK : Nat := 41
abbrev kK1 : Nat := 55
theorem keys_in (F : Fence) (n : Nat) (h7 : F.fn kK) (hro : F.round = none) (mb : Option Nat) (w : World) :
  CallsIn F n Tryd.prog kK #[.map mb] w fun e w' => e = .returned (.func (.func kK1) #[] #[.pointer (some ⟨w.heap.size, 0, none⟩)]) ∧ w' = w.alloc (.cells #[.map mb] tM) := by
 refine callsIn_of_wp Tryd.func41 rfl h7 ?_ hro
 simp only [Tryd.ntmps41, List.size_toArray, List.length_cons, List.length_nil, Nat.reduceAdd, Nat.reduceSub, Array.replicate_succ, Array.replicate_zero, List.push_toArray, List.append_toArray, List.nil_append, List.cons_append]
 gi_wp2
 go_ret
 exact ⟨rfl, rfl⟩
set_option maxRecDepth 100000 in
set_option maxHeartbeats 4000000 in
theorem keys1_in (F : Fence) (n : Nat) (h10 : F.fn kK1) (hro : F.round = none) (hn : 1 ≤ n) (l Bm : Nat) (m : Option Nat) (r : List Nd) (J : List Nd → World → Prop)
  (hY : ∀ pre x W, J pre W → pre.length < r.length → YieldAt F (n - 1) Tryd.prog l #[ndV x] W fun e W' => e = .returned (.bool true) ∧ J (pre ++ [x]) W' ∧ KeepsWalks W W')
  (W : World) (hJ : AbidesFrom W.heap.size J) (hm : W.cell? ⟨Bm, 0, none⟩ = some (.map m)) (hs : SetO W m r) (h0 : J [] W) :
  CallsIn F n Tryd.prog kK1 #[.func (.yield l) #[] #[], .pointer (some ⟨Bm, 0, none⟩)] W fun e W' => (∃ v, e = .returned v) ∧ ∃ ss : List Nd, ss.Perm r ∧ J ss W' := by
 refine callsIn_of_wp Tryd.func55 rfl h10 ?_ hro
 simp only [Tryd.ntmps55, List.size_toArray, List.length_cons, List.length_nil, Nat.reduceAdd, Nat.reduceSub, Array.replicate_succ, Array.replicate_zero, List.push_toArray, List.append_toArray, List.nil_append, List.cons_append]
 gi_wp2_with (first
  | (gi_at_range; refine RunO.start_in hs rfl (.tmp 4) rfl rfl ?_; intro w0 hr0 hg0)
  | gi_in)
 go_frame
 gi_loopw [6] (fun _ wr => ∃ ss : List Nd, RunO wr m W.heap.size r ss ∧ J ss wr) (fun _ wr => leftO m W.heap.size wr)
 case atStart => exact ⟨[], hr0, hJ [] W w0 none h0 hg0 (fun r e => by cases e)⟩
 case round =>
  obtain ⟨ss, hr, hJs⟩ := hrel
  rcases hr.next_run 0 with ⟨hp, hrun⟩ | ⟨x, w2, hx, hl, hr2, hg2, hlt, hen, hrun⟩
  ·gi_wp2_with (first
    | (gi_at_next; refine next_in_of rfl (.tmp 5) rfl rfl hrun ?_)
    | gi_in)
   go_end0
   exact ⟨⟨_, rfl⟩, ss, hp, hJs⟩
  ·have hJ2 : J ss w2 := hJ ss wr w2 (some W.heap.size) hJs hg2 (fun r e => by cases e; exact ⟨Nat.le_refl _, hr.iter_walk⟩)
   have hJ3 : J ss (w2.alloc (.cells #[.int .i64 x.f0, .int .i64 x.f1, .string x.f2] 24)) := hJ ss w2 _ none hJ2 (World.grownBy_alloc w2 _ none) (fun r e => by cases e)
   obtain ⟨fn, tmps, assign, body, hy, hR⟩ := hY ss x (w2.alloc (.cells #[.int .i64 x.f0, .int .i64 x.f1, .string x.f2] 24)) hJ3 hl
   have hr3 := hr2.walks (KeepsWalks.alloc w2 (.cells #[.int .i64 x.f0, .int .i64 x.f1, .string x.f2] 24))
   have hlt3 : leftO m W.heap.size (w2.alloc (.cells #[.int .i64 x.f0, .int .i64 x.f1, .string x.f2] 24)) < leftO m W.heap.size wr := by rw [hr2.left_walks (KeepsWalks.alloc w2 _)]; exact hlt
   unfold ndV at hen hy
   clear hg2 hJ2 hJ3
   gi_wp2_with (first
    | (gi_at_next; refine next_in_of rfl (.tmp 5) rfl rfl hrun ?_)
    | gi_in)
   refine hR.mono ?_
   rintro e W3 ⟨rfl, hJ4, hk3⟩
   have hr4 := hr3.walks hk3
   have hlt4 : leftO m W.heap.size W3 < leftO m W.heap.size wr := by rw [hr3.left_walks hk3]; exact hlt3
   gi_wp2
   go_roundw
   case rel => exact ⟨ss ++ [x], hr4, hJ4⟩
   case measure => exact hlt4
/-- maps.Keys of a set hands back an iterator over its nodes. -/
theorem keys_gives (F : Fence) (n : Nat) (h10 : F.fn kK1) (hro : F.round = none) (hn : 1 ≤ n) (Bm : Nat) (m : Option Nat) (r : List Nd) (w : World) (hBm : Bm < w.heap.size)
  (hm : w.cell? ⟨Bm, 0, none⟩ = some (.map m)) (hs : SetO w m r) :
  SeqGives F n Tryd.prog kK1 #[.pointer (some ⟨Bm, 0, none⟩)] ndV (fun ss => ss.Perm r) r.length w := fun l J W hW hJ hY h0 =>
 keys1_in F n h10 hro hn l Bm m r J hY W hJ ((hW.cell (p := ⟨Bm, 0, none⟩) hBm).trans hm) (hs.below hW) h0
/-! ### slices.AppendSeq -/
abbrev fAp : Nat := 65
abbrev fCo : Nat := 53
noncomputable def apParts : Code × Code := match Tryd.f65.body with | some (.seq _ (.seq (.seq _ (.block _ (.rangeFunc _ _ a b))) _)) => (a, b) | _ => (.skip, .skip)
noncomputable def apAssign : Code := apParts.1
noncomputable def apBody : Code := apParts.2
def ndC (x : Nd) : List Value := [.int .i64 x.f0, .int .i64 x.f1, .string x.f2]
def ndCs (ss : List Nd) : List Value := ss.flatMap ndC
theorem ndCs_snoc (ss : List Nd) (x : Nd) : ndCs (ss ++ [x]) = ndCs ss ++ ndC x := by unfold ndCs; rw [List.flatMap_append]; simp
theorem ndCs_len : ∀ ss : List Nd, (ndCs ss).length = ss.length * 3
 | [] => rfl
 | x :: ss => by
  have := ndCs_len ss
  unfold ndCs at this ⊢
  rw [List.flatMap_cons, List.length_append, this, List.length_cons]
  simp [ndC]; omega
noncomputable def apRec (fn : FuncId) (sv : Value) (Bs D : Nat) (st : LoopState) (pend : Option Code) : Loop :=
 { state := st, pending := pend, fn, tmps := #[.slice none 0 0, sv, .pointer (some ⟨Bs, 0, none⟩), undef, .slice none 0 0, undef, sv, undef, undef, undef, undef, undef, undef], params := #[7], assign := apAssign, body := apBody, defers := D }
structure ApAt (w0 : World) (fn : FuncId) (sv : Value) (Bs l D : Nat) (ss : List Nd) (W : World) : Prop where
 box : ∃ v, W.heap[Bs]? = some (.cells #[v] 45 (0, 0)) ∧ W.ownsRow w0.heap.size 24 3 v ss.length (ndCs ss)
 L : W.heap[l]? = some (.loop (apRec fn sv Bs D .ready none))
 K : W.heap[D]? = some (.deferred (some []))
 below : Below w0.heap.size w0 W
/-- A slice's own row is no walk's object: it abides an iterator's step. -/
theorem ownsRow_abides {W W' : World} {row : Option Nat} {base : Nat} {e : TypeId} {size : Nat} {v : Value} {k : Nat} {xs : List Value} (h : W.ownsRow base e size v k xs) (hg : W.grownBy W' row)
  (hrow : ∀ r, row = some r → ∃ o : Obj, W.heap[r]? = some o ∧ o.isWalk = true) : W'.ownsRow base e size v k xs := by
 refine h.kept hg ?_
 rcases h.2 with ⟨rfl, _⟩ | ⟨g, cap, cur, rfl, _, hgb, _⟩
 ·exact .inl rfl
 ·refine .inr fun e' => ?_
  obtain ⟨o, ho, hw⟩ := hrow g (by simpa [Value.ownBlock] using e'.symm)
  rw [hgb] at ho; cases ho; cases hw
theorem ap_abides (w0 : World) (fn : FuncId) (sv : Value) (Bs l D B : Nat) (hB : w0.heap.size ≤ B) : AbidesFrom B (ApAt w0 fn sv Bs l D) := fun s W W' row h hg hrow => by
 have hrow' : ∀ r, row = some r → ∃ o : Obj, W.heap[r]? = some o ∧ o.isWalk = true := fun r e => (hrow r e).2
 obtain ⟨v, hv, hr⟩ := h.box
 exact ⟨⟨v, (grownBy_keeps hg hrow' hv rfl).trans hv, ownsRow_abides hr hg hrow'⟩, (grownBy_keeps hg hrow' h.L rfl).trans h.L, (grownBy_keeps hg hrow' h.K rfl).trans h.K,
  h.below.grown hg h.below.size (fun k e => Nat.le_trans hB (hrow k e).1)⟩
theorem grownBy_putObj (W : World) (l : Nat) (o : Obj) : W.grownBy (W.putObj l o) (some l) :=
 ⟨rfl, rfl, rfl, by simp, fun k _ hk => World.putObj_heap_other (fun e => hk (by rw [e]))⟩
theorem grownBy_setCell0 (W : World) (b : Nat) (v : Value) : W.grownBy (W.setCell ⟨b, 0, none⟩ v) (some b) :=
 ⟨rfl, rfl, rfl, (KeepsWalks.setCell W _ v).size, fun k _ hk => Below.heap_setCell _ _ _ k (fun e => hk (by rw [e]))⟩
/-- A slice's own row is not a block that holds something else than cells of its element's type. -/
theorem ownsRow_ne {W : World} {base : Nat} {e : TypeId} {size : Nat} {v : Value} {k : Nat} {xs : List Value} (h : W.ownsRow base e size v k xs) {j : Nat} {o : Obj} (hj : W.heap[j]? = some o) (hno : ∀ cur, o ≠ .cells cur e (0, 0)) :
  v.ownBlock = none ∨ v.ownBlock ≠ some j := by
 rcases h.2 with ⟨rfl, _⟩ | ⟨g, cap, cur, rfl, _, hgb, _⟩
 ·exact .inl rfl
 ·refine .inr fun e' => ?_
  have : g = j := by simpa [Value.ownBlock] using e'
  subst this; rw [hgb] at hj; cases hj; exact hno cur rfl
theorem cell_of_box {W : World} {B : Nat} {v : Value} {t : TypeId} (h : W.heap[B]? = some (.cells #[v] t (0, 0))) : W.cell? ⟨B, 0, none⟩ = some v ∧ W.frozen? ⟨B, 0, none⟩ = false := by
 constructor <;> simp [World.cell?, World.frozen?, h]
theorem heap_setCell_box {W : World} {B : Nat} {v : Value} {t : TypeId} (v' : Value) (h : W.heap[B]? = some (.cells #[v] t (0, 0))) : (W.setCell ⟨B, 0, none⟩ v').heap[B]? = some (.cells #[v'] t (0, 0)) := by
 obtain ⟨hlt, hk⟩ := Array.getElem?_eq_some_iff.1 h
 show (W.heap.modify B _)[B]? = _
 rw [Array.getElem?_eq_getElem (by rw [Array.size_modify]; exact hlt), Array.getElem_modify_self, hk]
 rfl
theorem ownsRow_not_walk {W : World} {base : Nat} {e : TypeId} {size : Nat} {v : Value} {k : Nat} {xs : List Value} (h : W.ownsRow base e size v k xs) : ∀ (j : Nat) (o : Obj), v.ownBlock = some j → W.heap[j]? = some o → o.isWalk = false := by
 intro j o hj ho
 rcases h.2 with ⟨rfl, _⟩ | ⟨g, cap, cur, rfl, _, hgb, _⟩
 ·simp [Value.ownBlock] at hj
 ·have : g = j := by simpa [Value.ownBlock] using hj
  subst this; rw [hgb] at ho; cases ho; rfl
theorem infoNd : (Tryd.prog.info? 24).map (fun i => (i.zero, i.size, i.bytes)) = some (some (.agg #[.int .i64 0, .int .i64 0, .string ⟨#[]⟩]), 3, 32) := by kernel_rfl
theorem own_shape {W : World} {base : Nat} {e : TypeId} {n : Nat} {xs : List Value} {v' : Value} (h : W.ownsRow base e 3 v' (n + 1) xs) : ∃ g' cap' cur', v' = .slice (some ⟨g', 0, none⟩) (n + 1) cap' ∧ base ≤ g' ∧ W.heap[g']? = some (.cells cur' e (0, 0)) ∧ n + 1 ≤ cap' ∧ cap' ≤ maxLen ∧ cur'.size = cap' * 3 ∧ cur'.toList.take ((n + 1) * 3) = xs := by
 rcases h.2 with ⟨_, h0⟩ | h'
 ·exact absurd h0 (by omega)
 ·exact h'
theorem cell_nd_new (w : World) (x : Nd) (t : TypeId) : ∀ j u, (ndC x)[j]? = some u → (w.alloc (.cells #[.int .i64 x.f0, .int .i64 x.f1, .string x.f2] t)).cell? ((⟨w.heap.size, 0, none⟩ : Addr).add j) = some u := by
 intro j u h
 unfold ndC at h
 rcases j with _ | _ | _ | j
 ·simpa [Addr.add] using h
 ·simpa [Addr.add] using h
 ·simpa [Addr.add] using h
 ·simp at h
set_option maxRecDepth 100000 in
set_option maxHeartbeats 2000000 in
theorem apYield (F : Fence) (m : Nat) (w0 : World) (fn : FuncId) (hfn : F.fn fn) (sv : Value) (Bs l D : Nat) (hBl : Bs ≠ l) (hDl : D ≠ l) (hDB : D ≠ Bs) (h0B : w0.heap.size ≤ Bs) (h0l : w0.heap.size ≤ l)
  (N : Nat) (hN : N ≤ maxLen) (hNb : N * 32 ≤ 140737488355328) (ss : List Nd) (x : Nd) (W : World) (h : ApAt w0 fn sv Bs l D ss W) (hlen : ss.length < N) :
  YieldAt F m Tryd.prog l #[ndV x] W fun e W' => e = .returned (.bool true) ∧ ApAt w0 fn sv Bs l D (ss ++ [x]) W' ∧ KeepsWalks W W' := by
 obtain ⟨i0, hi, hz0, hz1, hz2⟩ := info_parts infoNd
 refine ⟨fn, #[.slice none 0 0, sv, .pointer (some ⟨Bs, 0, none⟩), undef, .slice none 0 0, undef, sv, ndV x, undef, undef, undef, undef, undef], apAssign, apBody, by simpa [apRec] using run_yield (P := Tryd.prog) (args := #[ndV x]) h.L rfl, roundIn_of_wpIn hfn ?_⟩
 have hl0 : l < W.heap.size := (Array.getElem?_eq_some_iff.1 h.L).1
 have hB0 : Bs < W.heap.size := by obtain ⟨v, hv, _⟩ := h.box; exact (Array.getElem?_eq_some_iff.1 hv).1
 have h1 : ApAt w0 fn sv Bs l D ss (W.alloc (.cells #[.int .i64 x.f0, .int .i64 x.f1, .string x.f2] 24)) := by
  have hh := ap_abides w0 fn sv Bs l D w0.heap.size (Nat.le_refl _) ss W _ none h (World.grownBy_alloc W (.cells #[.int .i64 x.f0, .int .i64 x.f1, .string x.f2] 24) none) (fun r e => by cases e)
  exact hh
 have hX1 : (W.alloc (.cells #[.int .i64 x.f0, .int .i64 x.f1, .string x.f2] 24)).heap[W.heap.size]? = some (.cells #[.int .i64 x.f0, .int .i64 x.f1, .string x.f2] 24 (0, 0)) := blk_new _ _
 have hkW : KeepsWalks W (W.alloc (.cells #[.int .i64 x.f0, .int .i64 x.f1, .string x.f2] 24)) := KeepsWalks.alloc _ _
 unfold apAssign apParts Tryd.f65
 unfold ndV
 gi_wp2_with (rw [Oper.semAt_eq _ _ _ (fun c h => by cases h)]; go_simp; try go_bits)
 generalize W.alloc (.cells #[.int .i64 x.f0, .int .i64 x.f1, .string x.f2] 24) = W1 at h1 hX1 hkW ⊢
 obtain ⟨v, hv, hrow⟩ := h1.box
 have hl : l < W1.heap.size := (Array.getElem?_eq_some_iff.1 h1.L).1
 have hbr := run_beginRound (P := Tryd.prog) h1.L rfl
 obtain ⟨W2, hW2⟩ : ∃ W2, W1.putObj l (.loop { apRec fn sv Bs D .ready none with state := .busy }) = W2 := ⟨_, rfl⟩
 rw [hW2] at hbr
 refine ⟨W2, hbr, ?_⟩
 have hg2 : W1.grownBy W2 (some l) := by rw [← hW2]; exact grownBy_putObj _ _ _
 have hk2 : KeepsWalks W W2 := hkW.trans (by rw [← hW2]; exact KeepsWalks.putObj _ h1.L rfl)
 have hv2 : W2.heap[Bs]? = some (.cells #[v] 45 (0, 0)) := by rw [← hW2]; exact (World.putObj_heap_other hBl).trans hv
 have hX2 : W2.heap[W.heap.size]? = some (.cells #[.int .i64 x.f0, .int .i64 x.f1, .string x.f2] 24 (0, 0)) := by rw [← hW2]; exact (World.putObj_heap_other (by omega)).trans hX1
 have hK2 : W2.heap[D]? = some (.deferred (some [])) := by rw [← hW2]; exact (World.putObj_heap_other hDl).trans h1.K
 have hL2 : W2.heap[l]? = some (.loop { apRec fn sv Bs D .ready none with state := .busy }) := by rw [← hW2]; exact World.putObj_heap_same hl
 have hrow2 : W2.ownsRow w0.heap.size 24 3 v ss.length (ndCs ss) := hrow.kept hg2 (ownsRow_ne hrow h1.L (fun cur e => by cases e))
 have hb2 : Below w0.heap.size w0 W2 := h1.below.grown hg2 h1.below.size (fun k e => by cases e; exact h0l)
 obtain ⟨hc2, hf2⟩ := cell_of_box hv2
 have hx2 := bk3 hX2
 have hBlt : Bs < W2.heap.size := (Array.getElem?_eq_some_iff.1 hv2).1
 have hl2 : l < W2.heap.size := (Array.getElem?_eq_some_iff.1 hL2).1
 have hDlt : D < W2.heap.size := (Array.getElem?_eq_some_iff.1 hK2).1
 have ne_of : ∀ {j : Nat} {o : Obj}, W2.heap[j]? = some o → (∀ cur, o ≠ .cells cur 24 (0, 0)) → some j ≠ v.ownBlock := fun hj hno => by
  rcases ownsRow_ne hrow2 hj hno with e | e
  ·rw [e]; simp
  ·exact fun e' => e e'.symm
 clear hW2 hbr hX1 hv hrow hl hg2 hkW h1 h
 unfold apBody apParts Tryd.f65
 gi_wp2_with (first
  | (gi_at_builtin; refine wpListIn_append_own _ rfl _ _ 45 rfl w0.heap.size 24 i0 (.agg #[.int .i64 0, .int .i64 0, .string ⟨#[]⟩]) 3 32 Tryd.underlying45 hi hz0 hz1 hz2 rfl (by decide) _ _ _ rfl (hrow2.alloc _) ⟨W2.heap.size, 0, none⟩ 1 1 (ndC x) rfl rfl (cell_nd_new _ _ _) (by simp [Value.oneCell', ndC]) (by omega) (by omega) (by have := hb2.size; simp; omega) ?_; intro v' w3 hown' hg3 hnil3; have hv3 : w3.heap[Bs]? = some (.cells #[v] 45 (0, 0)) := (hg3.block Bs (by simp; omega) (ne_of hv2 (fun cur e => by cases e))).trans ((Below.heap_alloc _ _ Bs hBlt).trans hv2); obtain ⟨hc3, hf3⟩ := cell_of_box hv3; obtain ⟨g', cap', cur', rfl, hbase', hgb', hr1, hr2, hr3, hr4⟩ := own_shape hown'; go_frame)
  | (rw [Oper.semAt_eq _ _ _ (fun c h => by cases h)]; go_simp; try go_bits))
 have hg3' : (W2.alloc (.cells #[.int .i64 x.f0, .int .i64 x.f1, .string x.f2] 24)).grownBy w3 v.ownBlock := hg3
 have hL3 : w3.heap[l]? = some (.loop { apRec fn sv Bs D .ready none with state := .busy }) := (hg3'.block l (by simp; omega) (ne_of hL2 (fun cur e => by cases e))).trans ((Below.heap_alloc _ _ l hl2).trans hL2)
 have hK3 : w3.heap[D]? = some (.deferred (some [])) := (hg3'.block D (by simp; omega) (ne_of hK2 (fun cur e => by cases e))).trans ((Below.heap_alloc _ _ D hDlt).trans hK2)
 obtain ⟨w4, hw4⟩ : ∃ w4, w3.setCell ⟨Bs, 0, none⟩ (.slice (some ⟨g', 0, none⟩) (ss.length + 1) cap') = w4 := ⟨_, rfl⟩
 rw [hw4]
 have hg4 : w3.grownBy w4 (some Bs) := by rw [← hw4]; exact grownBy_setCell0 _ _ _
 have hv4 : w4.heap[Bs]? = some (.cells #[.slice (some ⟨g', 0, none⟩) (ss.length + 1) cap'] 45 (0, 0)) := by rw [← hw4]; exact heap_setCell_box _ hv3
 have hL4 : w4.heap[l]? = some (.loop { apRec fn sv Bs D .ready none with state := .busy }) := (hg4.block l (Array.getElem?_eq_some_iff.1 hL3).1 (fun e => hBl (by cases e; rfl))).trans hL3
 have hK4 : w4.heap[D]? = some (.deferred (some [])) := (hg4.block D (Array.getElem?_eq_some_iff.1 hK3).1 (fun e => hDB (by cases e; rfl))).trans hK3
 have hrow4 := hown'.kept hg4 (ownsRow_ne hown' hv3 (fun cur e => by cases e))
 have hl4 : l < w4.heap.size := (Array.getElem?_eq_some_iff.1 hL4).1
 have hb3 : Below w0.heap.size w0 w3 := (hb2.alloc hb2.size _).grown hg3' (by have := hb2.size; simp; omega) (fun k e => (hrow2.lt k e).1)
 have hb4 : Below w0.heap.size w0 w4 := hb3.grown hg4 hb3.size (fun k e => by cases e; exact h0B)
 have hk4 : KeepsWalks W w4 := ((hk2.trans (KeepsWalks.alloc _ _)).trans (KeepsWalks.of_grownBy hg3' (ownsRow_not_walk (hrow2.alloc _)))).trans (by rw [← hw4]; exact KeepsWalks.setCell _ _ _)
 clear hw4
 refine ⟨_, _, run_endRound none hL4, rfl, ⟨⟨_, (World.putObj_heap_other hBl).trans hv4, ?_⟩, World.putObj_heap_same hl4, (World.putObj_heap_other hDl).trans hK4, hb4.grown (grownBy_putObj _ _ _) hb4.size (fun k e => by cases e; exact h0l)⟩, hk4.trans (KeepsWalks.putObj _ hL4 rfl)⟩
 have := hrow4.kept (grownBy_putObj w4 l (.loop { { apRec fn sv Bs D .ready none with state := .busy } with state := if (none : Option Code).isNone then .ready else .done, pending := none })) (ownsRow_ne hrow4 hL4 (fun cur e => by cases e))
 rw [ndCs_snoc]
 simpa using this
set_option maxRecDepth 100000 in
set_option maxHeartbeats 2000000 in
theorem appendSeq_in (F : Fence) (n : Nat) (h11 : F.fn fAp) (hro : F.round = none) (hn : 2 ≤ n) (g : Nat) (lb : Array Value) (hFg : F.fn g) (eg : ∀ args w, (callFunc g args).run Tryd.prog w = .ok (.enter g args) w)
  (S : List Nd → Prop) (N : Nat) (hN : N ≤ maxLen) (hNb : N * 32 ≤ 140737488355328) (w : World) (hseq : SeqGives F (n - 1) Tryd.prog g lb ndV S N w) :
  CallsIn F n Tryd.prog fAp #[.slice none 0 0, .func (.func g) #[] lb] w fun e w' => ∃ (v : Value) (ss : List Nd), e = .returned v ∧ S ss ∧ w'.ownsRow w.heap.size 24 3 v ss.length (ndCs ss) ∧ Below w.heap.size w w' := by
 have h1 : 1 ≤ n := by omega
 refine callsIn_of_wp_marks Tryd.func65 rfl h11 ?_ hro
 simp only [Tryd.ntmps65, List.size_toArray, List.length_cons, List.length_nil, Nat.reduceAdd, Nat.reduceSub, Array.replicate_succ, Array.replicate_zero, List.push_toArray, List.append_toArray, List.nil_append, List.cons_append]
 gi_wp2
 refine wpIn_rangeFunc ?_
 intro fn hfn
 rw [hro]
 obtain ⟨W0, hW0⟩ : ∃ W0, w.alloc (.cells #[.slice none 0 0] 45) = W0 := ⟨_, rfl⟩
 have hs0 : W0.heap.size = w.heap.size + 1 := by rw [← hW0]; simp
 have hv0 : W0.heap[w.heap.size]? = some (.cells #[.slice none 0 0] 45 (0, 0)) := by rw [← hW0]; exact World.alloc_heap_new w _
 have hb0 : Below w.heap.size w W0 := by rw [← hW0]; exact (Below.refl _ w).alloc (Nat.le_refl _) _
 rw [hW0]
 obtain ⟨W1, hW1⟩ : ∃ W1, (W0.alloc (.deferred (some []))).alloc (.loop (apRec fn (.func (.func g) #[] lb) w.heap.size W0.heap.size .ready none)) = W1 := ⟨_, rfl⟩
 have hold : ∀ k, k < W0.heap.size → W1.heap[k]? = W0.heap[k]? := fun k hk => by
  rw [← hW1]; exact (Below.heap_alloc _ _ k (by simp; omega)).trans (Below.heap_alloc _ _ k hk)
 have hb1 : Below w.heap.size w W1 := by rw [← hW1]; exact (hb0.alloc hb0.size _).alloc (by have := hb0.size; simp; omega) _
 have hs1 : W1.heap.size = W0.heap.size + 2 := by rw [← hW1]; simp
 have hM : ApAt w fn (.func (.func g) #[] lb) w.heap.size (W0.heap.size + 1) W0.heap.size [] W1 :=
  ⟨⟨_, (hold w.heap.size (by omega)).trans hv0, ⟨rfl, .inl ⟨rfl, rfl⟩⟩⟩,
   by rw [← hW1]; have := World.alloc_heap_new (W0.alloc (.deferred (some []))) (.loop (apRec fn (.func (.func g) #[] lb) w.heap.size W0.heap.size .ready none)); rwa [World.size_alloc] at this,
   by rw [← hW1]; exact (Below.heap_alloc _ _ _ (by simp)).trans (World.alloc_heap_new W0 _), hb1⟩
 refine ⟨W0.heap.size + 1, [{ target := .collected W0.heap.size, args := #[] }], W1, { target := .fn (.func g) lb, args := #[.func (.yield (W0.heap.size + 1)) #[] #[]] }, W1, g,
  #[.func (.yield (W0.heap.size + 1)) #[] #[]] ++ lb, W1, ?_, ?_, ?_, ?_, fun _ => h1, ?_⟩
 ·rw [← hW1]; exact run_enterLoop_outer _ _ _ _ _
 ·simp [resolve, go_sem]
 ·intro f' hf'; simp [Target.leads] at hf'; subst hf'; exact hFg
 ·simp [invoke, go_sem, eg]
 ·refine (hseq (W0.heap.size + 1) (ApAt w fn (.func (.func g) #[] lb) w.heap.size (W0.heap.size + 1) W0.heap.size) W1 hb1 (ap_abides _ _ _ _ _ _ _ hb1.size)
   (fun pre x W hJ hl => apYield F (n - 1 - 1) w fn hfn _ w.heap.size (W0.heap.size + 1) W0.heap.size (by omega) (by omega) (by omega) (Nat.le_refl _) (by omega) N hN hNb pre x W hJ hl) hM).mono ?_
  rintro e W2 ⟨⟨v0, rfl⟩, ss, hS, h2⟩
  obtain ⟨v, hv, hrow⟩ := h2.box
  have hend := run_endLoop (P := Tryd.prog) h2.L (by simp [apRec])
  obtain ⟨W3, hW3⟩ : ∃ W3, W2.putObj (W0.heap.size + 1) (.loop { apRec fn (.func (.func g) #[] lb) w.heap.size W0.heap.size .ready none with state := .exhausted }) = W3 := ⟨_, rfl⟩
  rw [hW3] at hend
  have hg3 : W2.grownBy W3 (some (W0.heap.size + 1)) := by rw [← hW3]; exact grownBy_putObj _ _ _
  have hv3 : W3.heap[w.heap.size]? = some (.cells #[v] 45 (0, 0)) := by rw [← hW3]; exact (World.putObj_heap_other (by omega)).trans hv
  have hK3 : W3.heap[W0.heap.size]? = some (.deferred (some [])) := by rw [← hW3]; exact (World.putObj_heap_other (by omega)).trans h2.K
  have hrow3 := hrow.kept hg3 (ownsRow_ne hrow h2.L (fun cur e => by cases e))
  have hb3 : Below w.heap.size w W3 := h2.below.grown hg3 h2.below.size (fun k e => by cases e; omega)
  obtain ⟨hc3, hf3⟩ := cell_of_box hv3
  clear hW3
  refine ⟨none, W3, hend, ?_⟩
  gi_wp2
  rw [← hs0]
  refine ⟨by simp, .inl ⟨_, _, rfl, run_takeDeferred hK3, ?_⟩⟩
  exact ⟨_, results_tmp rfl _ _ _, v, ss, rfl, hS, hrow3.kept (grownBy_putObj _ _ _) (ownsRow_ne hrow3 hK3 (fun cur e => by cases e))  , hb3.grown (grownBy_putObj _ _ _) hb3.size (fun k e => by cases e; omega)⟩
set_option maxHeartbeats 1000000 in
theorem collect_in (F : Fence) (n : Nat) (h8 : F.fn fCo) (h11 : F.fn fAp) (hro : F.round = none) (hn : 3 ≤ n) (g : Nat) (lb : Array Value) (hFg : F.fn g) (eg : ∀ args w, (callFunc g args).run Tryd.prog w = .ok (.enter g args) w)
  (S : List Nd → Prop) (N : Nat) (hN : N ≤ maxLen) (hNb : N * 32 ≤ 140737488355328) (w : World) (hseq : SeqGives F (n - 1 - 1) Tryd.prog g lb ndV S N w) :
  CallsIn F n Tryd.prog fCo #[.func (.func g) #[] lb] w fun e w' => ∃ (v : Value) (ss : List Nd), e = .returned v ∧ S ss ∧ w'.ownsRow w.heap.size 24 3 v ss.length (ndCs ss) ∧ Below w.heap.size w w' := by
 have h1 : 1 ≤ n := by omega
 refine callsIn_of_wp Tryd.func53 rfl h8 ?_ hro
 simp only [Tryd.ntmps53, List.size_toArray, List.length_cons, List.length_nil, Nat.reduceAdd, Nat.reduceSub, Array.replicate_succ, Array.replicate_zero, List.push_toArray, List.append_toArray, List.nil_append, List.cons_append]
 gi_wp2_with (gi_at_call 65; refine (appendSeq_in F (n - 1) h11 hro (by omega) g lb hFg eg S N hN hNb _ hseq).mono ?_; rintro e w' ⟨v, ss, rfl, hS, hrow, hb⟩)
 go_ret
 exact ⟨v, ss, rfl, hS, hrow, hb⟩
end Go.Proofs.YtgidnkmlnccaiaaDoor.Q
