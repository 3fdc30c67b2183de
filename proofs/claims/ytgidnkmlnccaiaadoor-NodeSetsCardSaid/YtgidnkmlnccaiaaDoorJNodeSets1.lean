/- What the row of NodeSets rests on, part 1: contracts of the functions that it reaches, and the plain law. -/
import Derived.Test.YtgidnkmlnccaiaaDoorJNodeSets0
namespace Go.Proofs.YtgidnkmlnccaiaaDoor.Q
open Go.RowKit Go.Proofs.YtgidnkmlnccaiaaDoorW.PrintWords Go.Proofs.YtgidnkmlnccaiaaDoorW.PrintLast Go.Proofs.YtgidnkmlnccaiaaDoorW.PrintMore
attribute [local go_sem] max2_int min2_int max_two min_two max_three min_three max_four min_four   -- for this text's walks alone
set_option linter.unusedVariables false
set_option linter.unusedSimpArgs false
/-! ### cmp_Compare_int: function 34 -/
def cmp_Compare_int.f (a0 : Int) (a1 : Int) : Option (Int) := (cmp_isNaN_int.f a0).bind fun t147 => ((cmp_isNaN_int.f a1).bind fun t148 => (if t147 = true then (if t148 = true then (some 0) else (some (-1))) else (if t148 = true then (some 1) else (if a0 < a1 then (some (-1)) else (if a0 > a1 then (some 1) else (some 0))))))
set_option maxHeartbeats 8000000 in
set_option maxRecDepth 100000 in
theorem cmp_Compare_int.calls (a0 : Int) (a1 : Int) (r : Int) (w : World) (h : cmp_Compare_int.f a0 a1 = some r) :
  Calls Tryd.prog 34 #[.int .i64 a0, .int .i64 a1] w fun e w' => e = .returned (.int .i64 r) ∧ Drawn0 w w' := by
 have H : ((cmp_isNaN_int.f a0).bind fun t147 => ((cmp_isNaN_int.f a1).bind fun t148 => (if t147 = true then (if t148 = true then (some 0) else (some (-1))) else (if t148 = true then (some 1) else (if a0 < a1 then (some (-1)) else (if a0 > a1 then (some 1) else (some 0))))))) = some r := h
 clear h
 replace H := Option.bind_eq_some_iff.mp H
 obtain ⟨t147, A30, H⟩ := H
 replace H : ((cmp_isNaN_int.f a1).bind fun t148 => (if t147 = true then (if t148 = true then (some 0) else (some (-1))) else (if t148 = true then (some 1) else (if a0 < a1 then (some (-1)) else (if a0 > a1 then (some 1) else (some 0)))))) = some r := H
 have A3 := Aside0.mk A30
 clear A30
 replace H := Option.bind_eq_some_iff.mp H
 obtain ⟨t148, A40, H⟩ := H
 replace H : (if t147 = true then (if t148 = true then (some 0) else (some (-1))) else (if t148 = true then (some 1) else (if a0 < a1 then (some (-1)) else (if a0 > a1 then (some 1) else (some 0))))) = some r := H
 have A4 := Aside0.mk A40
 clear A40
 by_cases c5 : t147 = true
 ·subst c5
  have H1 : (if t148 = true then (some 0) else (some (-1))) = some r := by rw [if_pos rfl] at H; exact H
  clear H
  have H := H1
  clear H1
  by_cases c6 : t148 = true
  ·subst c6
   have H1 : (some 0) = some r := by rw [if_pos rfl] at H; exact H
   clear H
   have H := H1
   clear H1
   obtain rfl := Option.some.inj H
   go_enter Tryd.func34, Tryd.ntmps34
   go_wp2_with (first | ((with_reducible refine gate_callee (f := 47) rfl ?_); refine goesL_ (some 8) rfl rfl Tryd.func47 (by kernel_rfl) rfl #[.int .i64 a0] rfl (by (try simp only [List.map_toArray, List.map_cons, List.map_nil]); first | done | rfl | (simp only [List.length_drop, List.length_take]; rfl)) ?_; (with_reducible refine (cmp_isNaN_int.calls a0 true _ A3.out).mono ?_); rintro e w' ⟨rfl, ⟨nd, rfl⟩⟩; refine ⟨_, rfl, ?_⟩) | ((with_reducible refine gate_callee (f := 47) rfl ?_); refine goesL_ (some 10) rfl rfl Tryd.func47 (by kernel_rfl) rfl #[.int .i64 a1] rfl (by (try simp only [List.map_toArray, List.map_cons, List.map_nil]); first | done | rfl | (simp only [List.length_drop, List.length_take]; rfl)) ?_; (with_reducible refine (cmp_isNaN_int.calls a1 true _ A4.out).mono ?_); rintro e w' ⟨rfl, ⟨nd, rfl⟩⟩; refine ⟨_, rfl, ?_⟩))
   go_ret
   exact ⟨by first | rfl | (simp; done) | (simp [*]; done), by repeat (first | exact Drawn0.refl _ | apply Drawn0.step)⟩
  ·replace c6 := Bool.eq_false_iff.mpr c6
   subst c6
   have H1 : (some (-1)) = some r := by rw [if_neg (show ¬ (false = true) by decide)] at H; exact H
   clear H
   have H := H1
   clear H1
   obtain rfl := Option.some.inj H
   go_enter Tryd.func34, Tryd.ntmps34
   go_wp2_with (first | ((with_reducible refine gate_callee (f := 47) rfl ?_); refine goesL_ (some 8) rfl rfl Tryd.func47 (by kernel_rfl) rfl #[.int .i64 a0] rfl (by (try simp only [List.map_toArray, List.map_cons, List.map_nil]); first | done | rfl | (simp only [List.length_drop, List.length_take]; rfl)) ?_; (with_reducible refine (cmp_isNaN_int.calls a0 true _ A3.out).mono ?_); rintro e w' ⟨rfl, ⟨nd, rfl⟩⟩; refine ⟨_, rfl, ?_⟩) | ((with_reducible refine gate_callee (f := 47) rfl ?_); refine goesL_ (some 10) rfl rfl Tryd.func47 (by kernel_rfl) rfl #[.int .i64 a1] rfl (by (try simp only [List.map_toArray, List.map_cons, List.map_nil]); first | done | rfl | (simp only [List.length_drop, List.length_take]; rfl)) ?_; (with_reducible refine (cmp_isNaN_int.calls a1 false _ A4.out).mono ?_); rintro e w' ⟨rfl, ⟨nd, rfl⟩⟩; refine ⟨_, rfl, ?_⟩))
   go_ret
   exact ⟨by first | rfl | (simp; done) | (simp [*]; done), by repeat (first | exact Drawn0.refl _ | apply Drawn0.step)⟩
 ·replace c5 := Bool.eq_false_iff.mpr c5
  subst c5
  have H1 : (if t148 = true then (some 1) else (if a0 < a1 then (some (-1)) else (if a0 > a1 then (some 1) else (some 0)))) = some r := by rw [if_neg (show ¬ (false = true) by decide)] at H; exact H
  clear H
  have H := H1
  clear H1
  by_cases c7 : t148 = true
  ·subst c7
   have H1 : (some 1) = some r := by rw [if_pos rfl] at H; exact H
   clear H
   have H := H1
   clear H1
   obtain rfl := Option.some.inj H
   go_enter Tryd.func34, Tryd.ntmps34
   go_wp2_with (first | ((with_reducible refine gate_callee (f := 47) rfl ?_); refine goesL_ (some 8) rfl rfl Tryd.func47 (by kernel_rfl) rfl #[.int .i64 a0] rfl (by (try simp only [List.map_toArray, List.map_cons, List.map_nil]); first | done | rfl | (simp only [List.length_drop, List.length_take]; rfl)) ?_; (with_reducible refine (cmp_isNaN_int.calls a0 false _ A3.out).mono ?_); rintro e w' ⟨rfl, ⟨nd, rfl⟩⟩; refine ⟨_, rfl, ?_⟩) | ((with_reducible refine gate_callee (f := 47) rfl ?_); refine goesL_ (some 10) rfl rfl Tryd.func47 (by kernel_rfl) rfl #[.int .i64 a1] rfl (by (try simp only [List.map_toArray, List.map_cons, List.map_nil]); first | done | rfl | (simp only [List.length_drop, List.length_take]; rfl)) ?_; (with_reducible refine (cmp_isNaN_int.calls a1 true _ A4.out).mono ?_); rintro e w' ⟨rfl, ⟨nd, rfl⟩⟩; refine ⟨_, rfl, ?_⟩))
   go_ret
   exact ⟨by first | rfl | (simp; done) | (simp [*]; done), by repeat (first | exact Drawn0.refl _ | apply Drawn0.step)⟩
  ·replace c7 := Bool.eq_false_iff.mpr c7
   subst c7
   have H1 : (if a0 < a1 then (some (-1)) else (if a0 > a1 then (some 1) else (some 0))) = some r := by rw [if_neg (show ¬ (false = true) by decide)] at H; exact H
   clear H
   have H := H1
   clear H1
   by_cases c8 : a0 < a1
   ·rw [if_pos c8] at H
    have c8b0 : decide (a0 < a1) = true := decide_eq_true c8
    clear c8
    obtain rfl := Option.some.inj H
    go_enter Tryd.func34, Tryd.ntmps34
    go_wp2_with (first | ((with_reducible refine gate_callee (f := 47) rfl ?_); refine goesL_ (some 8) rfl rfl Tryd.func47 (by kernel_rfl) rfl #[.int .i64 a0] rfl (by (try simp only [List.map_toArray, List.map_cons, List.map_nil]); first | done | rfl | (simp only [List.length_drop, List.length_take]; rfl)) ?_; (with_reducible refine (cmp_isNaN_int.calls a0 false _ A3.out).mono ?_); rintro e w' ⟨rfl, ⟨nd, rfl⟩⟩; refine ⟨_, rfl, ?_⟩) | ((with_reducible refine gate_callee (f := 47) rfl ?_); refine goesL_ (some 10) rfl rfl Tryd.func47 (by kernel_rfl) rfl #[.int .i64 a1] rfl (by (try simp only [List.map_toArray, List.map_cons, List.map_nil]); first | done | rfl | (simp only [List.length_drop, List.length_take]; rfl)) ?_; (with_reducible refine (cmp_isNaN_int.calls a1 false _ A4.out).mono ?_); rintro e w' ⟨rfl, ⟨nd, rfl⟩⟩; refine ⟨_, rfl, ?_⟩))
    go_ret
    exact ⟨by first | rfl | (simp; done) | (simp [*]; done), by repeat (first | exact Drawn0.refl _ | apply Drawn0.step)⟩
   ·rw [if_neg c8] at H
    have c8b0 : decide (a0 < a1) = false := decide_eq_false c8
    clear c8
    by_cases c9 : a0 > a1
    ·rw [if_pos c9] at H
     have c9b0 : decide (a1 < a0) = true := decide_eq_true c9
     clear c9
     obtain rfl := Option.some.inj H
     go_enter Tryd.func34, Tryd.ntmps34
     go_wp2_with (first | ((with_reducible refine gate_callee (f := 47) rfl ?_); refine goesL_ (some 8) rfl rfl Tryd.func47 (by kernel_rfl) rfl #[.int .i64 a0] rfl (by (try simp only [List.map_toArray, List.map_cons, List.map_nil]); first | done | rfl | (simp only [List.length_drop, List.length_take]; rfl)) ?_; (with_reducible refine (cmp_isNaN_int.calls a0 false _ A3.out).mono ?_); rintro e w' ⟨rfl, ⟨nd, rfl⟩⟩; refine ⟨_, rfl, ?_⟩) | ((with_reducible refine gate_callee (f := 47) rfl ?_); refine goesL_ (some 10) rfl rfl Tryd.func47 (by kernel_rfl) rfl #[.int .i64 a1] rfl (by (try simp only [List.map_toArray, List.map_cons, List.map_nil]); first | done | rfl | (simp only [List.length_drop, List.length_take]; rfl)) ?_; (with_reducible refine (cmp_isNaN_int.calls a1 false _ A4.out).mono ?_); rintro e w' ⟨rfl, ⟨nd, rfl⟩⟩; refine ⟨_, rfl, ?_⟩))
     go_ret
     exact ⟨by first | rfl | (simp; done) | (simp [*]; done), by repeat (first | exact Drawn0.refl _ | apply Drawn0.step)⟩
    ·rw [if_neg c9] at H
     have c9b0 : decide (a1 < a0) = false := decide_eq_false c9
     clear c9
     obtain rfl := Option.some.inj H
     go_enter Tryd.func34, Tryd.ntmps34
     go_wp2_with (first | ((with_reducible refine gate_callee (f := 47) rfl ?_); refine goesL_ (some 8) rfl rfl Tryd.func47 (by kernel_rfl) rfl #[.int .i64 a0] rfl (by (try simp only [List.map_toArray, List.map_cons, List.map_nil]); first | done | rfl | (simp only [List.length_drop, List.length_take]; rfl)) ?_; (with_reducible refine (cmp_isNaN_int.calls a0 false _ A3.out).mono ?_); rintro e w' ⟨rfl, ⟨nd, rfl⟩⟩; refine ⟨_, rfl, ?_⟩) | ((with_reducible refine gate_callee (f := 47) rfl ?_); refine goesL_ (some 10) rfl rfl Tryd.func47 (by kernel_rfl) rfl #[.int .i64 a1] rfl (by (try simp only [List.map_toArray, List.map_cons, List.map_nil]); first | done | rfl | (simp only [List.length_drop, List.length_take]; rfl)) ?_; (with_reducible refine (cmp_isNaN_int.calls a1 false _ A4.out).mono ?_); rintro e w' ⟨rfl, ⟨nd, rfl⟩⟩; refine ⟨_, rfl, ?_⟩))
     go_ret
     exact ⟨by first | rfl | (simp; done) | (simp [*]; done), by repeat (first | exact Drawn0.refl _ | apply Drawn0.step)⟩
end Go.Proofs.YtgidnkmlnccaiaaDoor.Q
/- cmp.Compare of texts: by hand. -/
namespace Go.Proofs.YtgidnkmlnccaiaaDoor.Q
open Go.RowKit Go.Proofs.YtgidnkmlnccaiaaDoorW.PrintWords Go.Proofs.YtgidnkmlnccaiaaDoorW.PrintLast Go.Proofs.YtgidnkmlnccaiaaDoorW.PrintMore
set_option linter.unusedVariables false
set_option linter.unusedSimpArgs false
theorem bl_eq (x y : List UInt8) : Op.bytesLess x y = decide (x < y) := bytesLess_eq x y
theorem bl_irrefl (x : List UInt8) : Op.bytesLess x x = false := by rw [bl_eq]; exact decide_eq_false (List.lt_irrefl x)
theorem bl_asymm {x y : List UInt8} (h : Op.bytesLess x y = true) : Op.bytesLess y x = false := by
 rw [bl_eq] at h ⊢
 exact decide_eq_false (List.lt_asymm (of_decide_eq_true h))
theorem bl_trans {x y z : List UInt8} (h : Op.bytesLess x y = true) (h2 : Op.bytesLess y z = true) : Op.bytesLess x z = true := by
 rw [bl_eq] at h h2 ⊢
 exact decide_eq_true (List.lt_trans (of_decide_eq_true h) (of_decide_eq_true h2))
theorem bl_total {x y : List UInt8} (h : Op.bytesLess x y = false) (h2 : Op.bytesLess y x = false) : x = y := by
 rw [bl_eq] at h h2
 exact List.le_antisymm (List.not_lt.mp (of_decide_eq_false h2)) (List.not_lt.mp (of_decide_eq_false h))
def cmpS (a b : List UInt8) : Int := if Op.bytesLess a b = true then -1 else if Op.bytesLess b a = true then 1 else 0
def cmp_Compare_string.f (a0 : ByteArray) (a1 : ByteArray) : Option (Int) := some (cmpS a0.toList a1.toList)
theorem isNaN_s (a : ByteArray) (w : World) : Calls Tryd.prog 48 #[.string a] w fun e w' => e = .returned (.bool false) ∧ w' = w := by
 have h1 : (a.toList != a.toList) = false := bne_self_eq_false _
 go_enter Tryd.func48, Tryd.ntmps48
 go_wp2
 go_ret
 exact ⟨rfl, rfl⟩
set_option maxRecDepth 100000 in
set_option maxHeartbeats 2000000 in
theorem cmp_Compare_string.calls (a0 : ByteArray) (a1 : ByteArray) (r : Int) (w : World) (h : cmp_Compare_string.f a0 a1 = some r) :
  Calls Tryd.prog 35 #[.string a0, .string a1] w fun e w' => e = .returned (.int .i64 r) ∧ Drawn0 w w' := by
 obtain rfl := Option.some.inj h
 clear h
 unfold cmpS
 cases h1 : Op.bytesLess a0.toList a1.toList with
 | true =>
  rw [if_pos rfl]
  go_enter Tryd.func35, Tryd.ntmps35
  go_wp2_with fail
  refine (isNaN_s a0 w).mono ?_
  rintro e w1 ⟨rfl, rfl⟩
  go_wp2_with fail
  refine (isNaN_s a1 w1).mono ?_
  rintro e w2 ⟨rfl, rfl⟩
  go_wp2
  go_ret
  exact ⟨rfl, Drawn0.refl _⟩
 | false =>
  rw [if_neg (by decide)]
  cases h2 : Op.bytesLess a1.toList a0.toList with
  | true =>
   rw [if_pos rfl]
   have h3 : (a0.toList == a1.toList) = false := beq_eq_false_iff_ne.mpr (fun e => by rw [e, bl_irrefl] at h2; cases h2)
   go_enter Tryd.func35, Tryd.ntmps35
   go_wp2_with fail
   refine (isNaN_s a0 w).mono ?_
   rintro e w1 ⟨rfl, rfl⟩
   go_wp2_with fail
   refine (isNaN_s a1 w1).mono ?_
   rintro e w2 ⟨rfl, rfl⟩
   go_wp2
   go_ret
   exact ⟨rfl, Drawn0.refl _⟩
  | false =>
   rw [if_neg (by decide)]
   have h3 : (a0.toList == a1.toList) = true := by rw [bl_total h1 h2]; exact beq_self_eq_true _
   go_enter Tryd.func35, Tryd.ntmps35
   go_wp2_with fail
   refine (isNaN_s a0 w).mono ?_
   rintro e w1 ⟨rfl, rfl⟩
   go_wp2_with fail
   refine (isNaN_s a1 w1).mono ?_
   rintro e w2 ⟨rfl, rfl⟩
   go_wp2
   go_ret
   exact ⟨rfl, Drawn0.refl _⟩
end Go.Proofs.YtgidnkmlnccaiaaDoor.Q
namespace Go.Proofs.YtgidnkmlnccaiaaDoor.Q
open Go.RowKit Go.Proofs.YtgidnkmlnccaiaaDoorW.PrintWords Go.Proofs.YtgidnkmlnccaiaaDoorW.PrintLast Go.Proofs.YtgidnkmlnccaiaaDoorW.PrintMore
attribute [local go_sem] max2_int min2_int max_two min_two max_three min_three max_four min_four   -- for this text's walks alone
set_option linter.unusedVariables false
set_option linter.unusedSimpArgs false
/-! ### node_Compare: function 12 -/
def node_Compare.f (k : Nat) (a0_0 : Int) (a0_1 : Int) (a0_2 : ByteArray) (a1_0 : Int) (a1_1 : Int) (a1_2 : ByteArray) : Option (Int) := (cmp_Compare_int.f a0_0 a1_0).bind fun t151 => ((cmp_Compare_int.f a0_1 a1_1).bind fun t152 => ((cmp_Compare_string.f a0_2 a1_2).bind fun t153 => ((cmp_Or_int.f k (([t151, t152, t153] : List Int))).bind fun t157 => (some t157))))
theorem node_Compare.mono : ∀ a0 a1 a2 a3 a4 a5 k, LeO (node_Compare.f k a0 a1 a2 a3 a4 a5) (node_Compare.f (k + 1) a0 a1 a2 a3 a4 a5) := by
 intro a0 a1 a2 a3 a4 a5 k
 unfold node_Compare.f
 repeat' first
   | (with_reducible exact cmp_Or_int.mono _ _)
   | (with_reducible exact LeO.refl _)
   | (with_reducible exact LeO.none _)
   | (with_reducible refine LeO.ite ?_ ?_)
   | (with_reducible refine LeO.bind ?_ (fun _ => ?_))
   | exact cmp_Or_int.mono _ _
   | exact LeO.none _
   | refine LeO.ite ?_ ?_
   | refine LeO.bind ?_ (fun _ => ?_)
def node_Compare.T1 : Bool × List (List Nat × List Nat) := (true, [([], []), ([0], [0]), ([], []), ([2], [2]), ([1, 3], [1, 3]), ([], []), ([5], [5]), ([], []), ([7], [7]), ([6, 8, 4], [6, 8]), ([], []), ([10], [10]), ([], []), ([12], [12]), ([11, 13, 9], [11, 13]), ([4, 9, 14], [4, 9, 14]), ([15, 14], [15]), ([16, 16, 0, 1, 2, 3, 4, 5, 6, 7, 8, 9, 10, 11, 12, 13, 14, 15, 16], [16])])
def node_Compare.B1 : List Nat := [0, 1, 0, 4, 15, 0, 32, 0, 128, 511, 0, 1024, 0, 4096, 16383, 32767, 65535, 131071]
theorem node_Compare.tab1 : rtab .any (opsOf Tryd.f12 1) = node_Compare.T1 := by kernel_rfl
theorem node_Compare.bits1 : waitsOk node_Compare.T1.2 node_Compare.B1 = true := by kernel_rfl
set_option maxHeartbeats 8000000 in
set_option maxRecDepth 100000 in
theorem node_Compare.calls (k : Nat) (a0_0 : Int) (a0_1 : Int) (a0_2 : ByteArray) (a1_0 : Int) (a1_1 : Int) (a1_2 : ByteArray) (r : Int) (w : World) (h : node_Compare.f k a0_0 a0_1 a0_2 a1_0 a1_1 a1_2 = some r) :
  Calls Tryd.prog 12 #[.agg #[.int .i64 a0_0, .int .i64 a0_1, .string a0_2], .agg #[.int .i64 a1_0, .int .i64 a1_1, .string a1_2]] w fun e w' => e = .returned (.int .i64 r) ∧ Below w.heap.size w w' := by
 have hu24 := Tryd.underlying24
 have HB := Aside0.mk (Below.refl w.heap.size w)
 have H : ((cmp_Compare_int.f a0_0 a1_0).bind fun t151 => ((cmp_Compare_int.f a0_1 a1_1).bind fun t152 => ((cmp_Compare_string.f a0_2 a1_2).bind fun t153 => ((cmp_Or_int.f k (([t151, t152, t153] : List Int))).bind fun t157 => (some t157))))) = some r := h
 clear h
 replace H := Option.bind_eq_some_iff.mp H
 obtain ⟨t151, A30, H⟩ := H
 replace H : ((cmp_Compare_int.f a0_1 a1_1).bind fun t152 => ((cmp_Compare_string.f a0_2 a1_2).bind fun t153 => ((cmp_Or_int.f k (([t151, t152, t153] : List Int))).bind fun t157 => (some t157)))) = some r := H
 have A3 := Aside0.mk A30
 clear A30
 replace H := Option.bind_eq_some_iff.mp H
 obtain ⟨t152, A40, H⟩ := H
 replace H : ((cmp_Compare_string.f a0_2 a1_2).bind fun t153 => ((cmp_Or_int.f k (([t151, t152, t153] : List Int))).bind fun t157 => (some t157))) = some r := H
 have A4 := Aside0.mk A40
 clear A40
 replace H := Option.bind_eq_some_iff.mp H
 obtain ⟨t153, A50, H⟩ := H
 replace H : ((cmp_Or_int.f k (([t151, t152, t153] : List Int))).bind fun t157 => (some t157)) = some r := H
 have A5 := Aside0.mk A50
 clear A50
 obtain ⟨y154, hy154⟩ : ∃ y_ : List Int, y_ = (([t151, t152, t153] : List Int)) := ⟨_, rfl⟩
 replace H : ((cmp_Or_int.f k y154).bind fun t157 => (some t157)) = some r := by first | (rw [hy154]; with_reducible exact H) | (have H2_ := (Option.bind_some _ _).symm.trans H; rw [hy154]; with_reducible exact H2_) | (have H2_ := (Option.bind_some _ _).symm.trans H; with_reducible exact H2_) | with_reducible exact H | (rw [hy154]; exact H) | exact H
 have Ny154 := Aside0.mk hy154
 clear hy154
 replace H := Option.bind_eq_some_iff.mp H
 obtain ⟨t157, A60, H⟩ := H
 replace H : (some t157) = some r := H
 have A6 := Aside0.mk A60
 clear A60
 obtain rfl := Option.some.inj H
 go_enter Tryd.func12, Tryd.ntmps12
 try go_wp2_with (first | ((with_reducible refine gate_dst (N := 2) rfl ?_); refine box_event ?hg (N := 2) ?hd (cs := #[.int .i64 a0_0, .int .i64 a0_1, .string a0_2]) (t := 24) ?hr ?_; (case hd => rfl); (case hg => rfl); (case hr => first | (go_simp; done) | (go_simp; rfl)); intro gb149 hg w7 hbox hb; have n0_ := Aside0.mk (below_step (by repeat (first | (with_reducible first | exact HB.out | apply below_alloc | apply pw_below_drewN | apply below_drew1) | exact HB.out)) hb); have n1_ := Aside0.mk (hbox); have n2_ := Aside0.mk ((by rw [hg]; exact (below_size (by repeat (first | (with_reducible first | exact HB.out | apply below_alloc | apply pw_below_drewN | apply below_drew1) | exact HB.out))) : w.heap.size ≤ gb149)); have n3_ := Aside0.mk ((by rw [hg]; exact (below_size (by repeat (first | (with_reducible first | exact HB.out | apply below_alloc | apply pw_below_drewN | apply below_drew1) | exact HB.out))) : w.heap.size ≤ gb149)); clear HB; have HB := n0_; have BK149 := n1_; have GW149 := n2_; have GE149 := n3_; clear n0_ n1_ n2_ n3_; clear hb hbox hg) | ((with_reducible refine gate_dst (N := 3) rfl ?_); refine box_event ?hg (N := 3) ?hd (cs := #[.int .i64 a1_0, .int .i64 a1_1, .string a1_2]) (t := 24) ?hr ?_; (case hd => rfl); (case hg => rfl); (case hr => first | (go_simp; done) | (go_simp; rfl)); intro gb150 hg w8 hbox hb; have n0_ := Aside0.mk (blk_below (g := gb149) (o := .cells #[.int .i64 a0_0, .int .i64 a0_1, .string a0_2] 24 (0, 0)) (by (with_reducible repeat (first | refine blk_drewN ?_ _ | refine blk_drew ?_ | refine blk_alloc ?_ _)); exact BK149.out) hb); have n1_ := Aside0.mk (below_step (by repeat (first | (with_reducible first | exact HB.out | apply below_alloc | apply pw_below_drewN | apply below_drew1 | refine below_set ?_ GE149.out) | exact HB.out)) hb); have n2_ := Aside0.mk (hbox); have n3_ := Aside0.mk ((by rw [hg]; exact (below_size (by repeat (first | (with_reducible first | exact HB.out | apply below_alloc | apply pw_below_drewN | apply below_drew1 | refine below_set ?_ GE149.out) | exact HB.out))) : w.heap.size ≤ gb150)); have n4_ := Aside0.mk ((by rw [hg]; exact (below_size (by repeat (first | (with_reducible first | exact HB.out | apply below_alloc | apply pw_below_drewN | apply below_drew1 | refine below_set ?_ GE149.out) | exact HB.out))) : w.heap.size ≤ gb150)); have n5_ := Aside0.mk ((by rw [hg]; exact Nat.ne_of_lt (blk_lt (g := gb149) (o := .cells #[.int .i64 a0_0, .int .i64 a0_1, .string a0_2] 24 (0, 0)) (by (with_reducible repeat (first | refine blk_drewN ?_ _ | refine blk_drew ?_ | refine blk_alloc ?_ _)); exact BK149.out)) : gb149 ≠ gb150)); have n6_ := Aside0.mk ((by rw [hg]; exact Nat.ne_of_gt (blk_lt (g := gb149) (o := .cells #[.int .i64 a0_0, .int .i64 a0_1, .string a0_2] 24 (0, 0)) (by (with_reducible repeat (first | refine blk_drewN ?_ _ | refine blk_drew ?_ | refine blk_alloc ?_ _)); exact BK149.out)) : gb150 ≠ gb149)); clear BK149; clear HB; have BK149 := n0_; have HB := n1_; have BK150 := n2_; have GW150 := n3_; have GE150 := n4_; have NB149_150 := n5_; have NB150_149 := n6_; clear n0_ n1_ n2_ n3_ n4_ n5_ n6_; clear hb hbox hg))
 have n0_ := Aside0.mk (blk_drew BK149.out)
 have n1_ := Aside0.mk (blk_drew BK150.out)
 have n2_ := Aside0.mk (below_drew1 HB.out)
 clear BK149
 clear BK150
 clear HB
 have BK149 := n0_
 have BK150 := n1_
 have HB := n2_
 clear n0_ n1_ n2_
 refine start_ (n := 18) (S := fun w' => w'.cell? ⟨gb149, 0, none⟩ = some (.int .i64 a0_0) ∧ w'.cell? ⟨gb149, 1, none⟩ = some (.int .i64 a0_1) ∧ w'.cell? ⟨gb149, 2, none⟩ = some (.string a0_2) ∧ w'.cell? ⟨gb150, 0, none⟩ = some (.int .i64 a1_0) ∧ w'.cell? ⟨gb150, 1, none⟩ = some (.int .i64 a1_1) ∧ w'.cell? ⟨gb150, 2, none⟩ = some (.string a1_2)) (ds := []) #[false, false, false, false, false, false, false, false, false, false, false, false, false, false, false, false, false, false] (by kernel_rfl) rfl rfl ⟨(blk_cell BK149.out 0).trans rfl, (blk_cell BK149.out 1).trans rfl, (blk_cell BK149.out 2).trans rfl, (blk_cell BK150.out 0).trans rfl, (blk_cell BK150.out 1).trans rfl, (blk_cell BK150.out 2).trans rfl⟩ (fun hHeld => ?_); refine with_tabW node_Compare.tab1 node_Compare.bits1 (fun HT_ HW_ => ?_)
 generalize w8.drew = w9 at BK149 BK150 HB hHeld ⊢
 refine pure_ (i := 0) (N := some 5) (v := ?_) (a' := ?_) #[true, false, false, false, false, false, false, false, false, false, false, false, false, false, false, false, false, false] rfl rfl (any_of HT_.out (by kernel_rfl)) (fun _ _ _ h => h) (Or.inl ⟨by rfl, ?_⟩) ?_ ?_
 rotate_left
 ·intro w'
  go_simp
  with_reducible rfl
 rotate_left
 ·simp only [Act.put, List.setIfInBounds_toArray, List.set_cons_zero, List.set_cons_succ, i64_w, i32_w]
  rfl
 refine pure_ (i := 2) (N := some 7) (v := ?_) (a' := ?_) #[true, false, true, false, false, false, false, false, false, false, false, false, false, false, false, false, false, false] rfl rfl (any_of HT_.out (by kernel_rfl)) (fun _ _ _ h => h) (Or.inl ⟨by rfl, ?_⟩) ?_ ?_
 rotate_left
 ·intro w'
  go_simp
  with_reducible rfl
 rotate_left
 ·simp only [Act.put, List.setIfInBounds_toArray, List.set_cons_zero, List.set_cons_succ, i64_w, i32_w]
  rfl
 refine pure_ (i := 5) (N := some 10) (v := ?_) (a' := ?_) #[true, false, true, false, false, true, false, false, false, false, false, false, false, false, false, false, false, false] rfl rfl (any_of HT_.out (by kernel_rfl)) (fun _ _ _ h => h) (Or.inl ⟨by rfl, ?_⟩) ?_ ?_
 rotate_left
 ·intro w'
  go_simp
  with_reducible rfl
 rotate_left
 ·simp only [Act.put, List.setIfInBounds_toArray, List.set_cons_zero, List.set_cons_succ, i64_w, i32_w]
  rfl
 refine pure_ (i := 7) (N := some 12) (v := ?_) (a' := ?_) #[true, false, true, false, false, true, false, true, false, false, false, false, false, false, false, false, false, false] rfl rfl (any_of HT_.out (by kernel_rfl)) (fun _ _ _ h => h) (Or.inl ⟨by rfl, ?_⟩) ?_ ?_
 rotate_left
 ·intro w'
  go_simp
  with_reducible rfl
 rotate_left
 ·simp only [Act.put, List.setIfInBounds_toArray, List.set_cons_zero, List.set_cons_succ, i64_w, i32_w]
  rfl
 refine pure_ (i := 10) (N := some 15) (v := ?_) (a' := ?_) #[true, false, true, false, false, true, false, true, false, false, true, false, false, false, false, false, false, false] rfl rfl (any_of HT_.out (by kernel_rfl)) (fun _ _ _ h => h) (Or.inl ⟨by rfl, ?_⟩) ?_ ?_
 rotate_left
 ·intro w'
  go_simp
  with_reducible rfl
 rotate_left
 ·simp only [Act.put, List.setIfInBounds_toArray, List.set_cons_zero, List.set_cons_succ, i64_w, i32_w]
  rfl
 refine pure_ (i := 12) (N := some 17) (v := ?_) (a' := ?_) #[true, false, true, false, false, true, false, true, false, false, true, false, true, false, false, false, false, false] rfl rfl (any_of HT_.out (by kernel_rfl)) (fun _ _ _ h => h) (Or.inl ⟨by rfl, ?_⟩) ?_ ?_
 rotate_left
 ·intro w'
  go_simp
  with_reducible rfl
 rotate_left
 ·simp only [Act.put, List.setIfInBounds_toArray, List.set_cons_zero, List.set_cons_succ, i64_w, i32_w]
  rfl
 refine take_ (i := 1) (N := some 6) (v := ?_) (a' := ?_) #[true, true, true, false, false, true, false, true, false, false, true, false, true, false, false, false, false, false] rfl rfl (take_ofW HT_.out HW_.out (by kernel_rfl)) (fun _ _ _ h => h) (Or.inl ⟨by rfl, ?_⟩) hHeld ?_ ?_
 rotate_left
 ·rintro w' ⟨s0, s1, s2, s3, s4, s5⟩
  go_simp
  with_reducible rfl
 rotate_left
 ·simp only [Act.put, List.setIfInBounds_toArray, List.set_cons_zero, List.set_cons_succ, i64_w, i32_w]
  rfl
 refine take_ (i := 3) (N := some 8) (v := ?_) (a' := ?_) #[true, true, true, true, false, true, false, true, false, false, true, false, true, false, false, false, false, false] rfl rfl (take_ofW HT_.out HW_.out (by kernel_rfl)) (fun _ _ _ h => h) (Or.inl ⟨by rfl, ?_⟩) hHeld ?_ ?_
 rotate_left
 ·rintro w' ⟨s0, s1, s2, s3, s4, s5⟩
  go_simp
  with_reducible rfl
 rotate_left
 ·simp only [Act.put, List.setIfInBounds_toArray, List.set_cons_zero, List.set_cons_succ, i64_w, i32_w]
  rfl
 refine take_ (i := 6) (N := some 11) (v := ?_) (a' := ?_) #[true, true, true, true, false, true, true, true, false, false, true, false, true, false, false, false, false, false] rfl rfl (take_ofW HT_.out HW_.out (by kernel_rfl)) (fun _ _ _ h => h) (Or.inl ⟨by rfl, ?_⟩) hHeld ?_ ?_
 rotate_left
 ·rintro w' ⟨s0, s1, s2, s3, s4, s5⟩
  go_simp
  with_reducible rfl
 rotate_left
 ·simp only [Act.put, List.setIfInBounds_toArray, List.set_cons_zero, List.set_cons_succ, i64_w, i32_w]
  rfl
 refine take_ (i := 8) (N := some 13) (v := ?_) (a' := ?_) #[true, true, true, true, false, true, true, true, true, false, true, false, true, false, false, false, false, false] rfl rfl (take_ofW HT_.out HW_.out (by kernel_rfl)) (fun _ _ _ h => h) (Or.inl ⟨by rfl, ?_⟩) hHeld ?_ ?_
 rotate_left
 ·rintro w' ⟨s0, s1, s2, s3, s4, s5⟩
  go_simp
  with_reducible rfl
 rotate_left
 ·simp only [Act.put, List.setIfInBounds_toArray, List.set_cons_zero, List.set_cons_succ, i64_w, i32_w]
  rfl
 refine take_ (i := 11) (N := some 16) (v := ?_) (a' := ?_) #[true, true, true, true, false, true, true, true, true, false, true, true, true, false, false, false, false, false] rfl rfl (take_ofW HT_.out HW_.out (by kernel_rfl)) (fun _ _ _ h => h) (Or.inl ⟨by rfl, ?_⟩) hHeld ?_ ?_
 rotate_left
 ·rintro w' ⟨s0, s1, s2, s3, s4, s5⟩
  go_simp
  with_reducible rfl
 rotate_left
 ·simp only [Act.put, List.setIfInBounds_toArray, List.set_cons_zero, List.set_cons_succ, i64_w, i32_w]
  rfl
 refine take_ (i := 13) (N := some 18) (v := ?_) (a' := ?_) #[true, true, true, true, false, true, true, true, true, false, true, true, true, true, false, false, false, false] rfl rfl (take_ofW HT_.out HW_.out (by kernel_rfl)) (fun _ _ _ h => h) (Or.inl ⟨by rfl, ?_⟩) hHeld ?_ ?_
 rotate_left
 ·rintro w' ⟨s0, s1, s2, s3, s4, s5⟩
  go_simp
  with_reducible rfl
 rotate_left
 ·simp only [Act.put, List.setIfInBounds_toArray, List.set_cons_zero, List.set_cons_succ, i64_w, i32_w]
  rfl
 refine one_ (i := 4) (N := some 9) #[true, true, true, true, true, true, true, true, true, false, true, true, true, true, false, false, false, false] rfl rfl (one_of HT_.out (by kernel_rfl)) (by decide) (fun K hK => ?_)
 refine goes_ Tryd.func34 (by kernel_rfl) rfl #[.int .i64 a0_0, .int .i64 a1_0] (by rfl) rfl rfl (by (try simp only [List.map_toArray, List.map_cons, List.map_nil]); first | done | rfl | (simp only [List.length_drop, List.length_take]; rfl)) ?_
 with_reducible refine (cmp_Compare_int.calls a0_0 a1_0 t151 _ A3.out).mono ?_
 rintro e w' ⟨rfl, ⟨nd, rfl⟩⟩
 refine ⟨_, rfl, ?_⟩
 refine hK.out _ _ ⟨(blk_cell BK149.out 0).trans rfl, (blk_cell BK149.out 1).trans rfl, (blk_cell BK149.out 2).trans rfl, (blk_cell BK150.out 0).trans rfl, (blk_cell BK150.out 1).trans rfl, (blk_cell BK150.out 2).trans rfl⟩ (fun hHeld => ?_)
 clear hK K
 refine norm_ (a' := ?_) ?_ ?_
 rotate_left
 ·show Act.put _ (some 9) _ = _
  simp only [Act.put, List.setIfInBounds_toArray, List.set_cons_zero, List.set_cons_succ, i64_w, i32_w]
  rfl
 refine one_ (i := 9) (N := some 14) #[true, true, true, true, true, true, true, true, true, true, true, true, true, true, false, false, false, false] rfl rfl (one_of HT_.out (by kernel_rfl)) (by decide) (fun K hK => ?_)
 refine goes_ Tryd.func34 (by kernel_rfl) rfl #[.int .i64 a0_1, .int .i64 a1_1] (by rfl) rfl rfl (by (try simp only [List.map_toArray, List.map_cons, List.map_nil]); first | done | rfl | (simp only [List.length_drop, List.length_take]; rfl)) ?_
 with_reducible refine (cmp_Compare_int.calls a0_1 a1_1 t152 _ A4.out).mono ?_
 rintro e w' ⟨rfl, ⟨nd, rfl⟩⟩
 refine ⟨_, rfl, ?_⟩
 refine hK.out _ _ ⟨(blk_cell BK149.out 0).trans rfl, (blk_cell BK149.out 1).trans rfl, (blk_cell BK149.out 2).trans rfl, (blk_cell BK150.out 0).trans rfl, (blk_cell BK150.out 1).trans rfl, (blk_cell BK150.out 2).trans rfl⟩ (fun hHeld => ?_)
 clear hK K
 refine norm_ (a' := ?_) ?_ ?_
 rotate_left
 ·show Act.put _ (some 14) _ = _
  simp only [Act.put, List.setIfInBounds_toArray, List.set_cons_zero, List.set_cons_succ, i64_w, i32_w]
  rfl
 refine one_ (i := 14) (N := some 19) #[true, true, true, true, true, true, true, true, true, true, true, true, true, true, true, false, false, false] rfl rfl (one_of HT_.out (by kernel_rfl)) (by decide) (fun K hK => ?_)
 refine goes_ Tryd.func35 (by kernel_rfl) rfl #[.string a0_2, .string a1_2] (by rfl) rfl rfl (by (try simp only [List.map_toArray, List.map_cons, List.map_nil]); first | done | rfl | (simp only [List.length_drop, List.length_take]; rfl)) ?_
 with_reducible refine (cmp_Compare_string.calls a0_2 a1_2 t153 _ A5.out).mono ?_
 rintro e w' ⟨rfl, ⟨nd, rfl⟩⟩
 refine ⟨_, rfl, ?_⟩
 refine hK.out _ _ ⟨(blk_cell BK149.out 0).trans rfl, (blk_cell BK149.out 1).trans rfl, (blk_cell BK149.out 2).trans rfl, (blk_cell BK150.out 0).trans rfl, (blk_cell BK150.out 1).trans rfl, (blk_cell BK150.out 2).trans rfl⟩ (fun hHeld => ?_)
 clear hK K
 refine norm_ (a' := ?_) ?_ ?_
 rotate_left
 ·show Act.put _ (some 19) _ = _
  simp only [Act.put, List.setIfInBounds_toArray, List.set_cons_zero, List.set_cons_succ, i64_w, i32_w]
  rfl
 refine one_ (i := 15) (N := some 20) #[true, true, true, true, true, true, true, true, true, true, true, true, true, true, true, true, false, false] rfl rfl (one_of HT_.out (by kernel_rfl)) (by decide) (fun K hK => ?_)
 refine Kd.R_lit_step (Kd.int .i64) _ 3 ?hg (N := 20) ?hd (xs := ([t151, t152, t153] : List Int)) (inner := [.int .i64 t151, .int .i64 t152, .int .i64 t153]) (ok := fun _ => True) (okp := fun _ => True) ?hr ?hp (fun _ hk => hk) trivial (Below.refl _ _) (Nat.le_refl _) (by simp) ?_; (case hd => rfl); (case hg => rfl); (case hr => first | (go_simp; done) | (go_simp; rfl)); (case hp => exact (Reps.one (show Kd.M (Kd.int .i64) _ _ _ t151 [.int .i64 t151] from rfl) (Reps.one (show Kd.M (Kd.int .i64) _ _ _ t152 [.int .i64 t152] from rfl) (Reps.one (show Kd.M (Kd.int .i64) _ _ _ t153 [.int .i64 t153] from rfl) (Reps.none _ _)))))
 intro v155 w10 ho11 hb hg_ hnew_
 clear hg_ hnew_
 (first | rw [← Ny154.out] at ho11 | (simp only [Int.reduceToNat] at ho11; rw [← Ny154.out] at ho11))
 have n0_ := Aside0.mk (Kd.R_lower ho11 (below_size (by repeat (first | (with_reducible first | exact HB.out | apply below_alloc | apply pw_below_drewN | apply below_drew1 | refine below_set ?_ GE149.out | refine below_set ?_ GE150.out) | exact HB.out))))
 have n1_ := Aside0.mk (blk_below (g := gb149) (o := .cells #[.int .i64 a0_0, .int .i64 a0_1, .string a0_2] 24 (0, 0)) (by (with_reducible repeat (first | refine blk_drewN ?_ _ | refine blk_drew ?_ | refine blk_alloc ?_ _)); exact BK149.out) hb)
 have n2_ := Aside0.mk (blk_below (g := gb150) (o := .cells #[.int .i64 a1_0, .int .i64 a1_1, .string a1_2] 24 (0, 0)) (by (with_reducible repeat (first | refine blk_drewN ?_ _ | refine blk_drew ?_ | refine blk_alloc ?_ _)); exact BK150.out) hb)
 have n3_ := Aside0.mk (below_step (by repeat (first | (with_reducible first | exact HB.out | apply below_alloc | apply pw_below_drewN | apply below_drew1 | refine below_set ?_ GE149.out | refine below_set ?_ GE150.out) | exact HB.out)) hb)
 clear BK149
 clear BK150
 clear HB
 have HO156 := n0_
 have BK149 := n1_
 have BK150 := n2_
 have HB := n3_
 clear n0_ n1_ n2_ n3_
 clear hb ho11
 obtain ⟨Ao12, co12, eo12⟩ := Kd.R_slice HO156.out
 (first | subst eo12 | (injection eo12 with f1_ f2_ f3_; have f4_ := f1_.symm; have f5_ := f3_.symm; clear f1_ f2_ f3_; subst f4_; subst f5_))
 refine hK.out _ _ ⟨(blk_cell BK149.out 0).trans rfl, (blk_cell BK149.out 1).trans rfl, (blk_cell BK149.out 2).trans rfl, (blk_cell BK150.out 0).trans rfl, (blk_cell BK150.out 1).trans rfl, (blk_cell BK150.out 2).trans rfl⟩ (fun hHeld => ?_)
 clear hK K
 refine norm_ (a' := ?_) ?_ ?_
 rotate_left
 ·show Act.put _ (some 20) _ = _
  simp only [Act.put, List.setIfInBounds_toArray, List.set_cons_zero, List.set_cons_succ, i64_w, i32_w]
  rfl
 refine one_ (i := 16) (N := some 21) #[true, true, true, true, true, true, true, true, true, true, true, true, true, true, true, true, true, false] rfl rfl (one_of HT_.out (by kernel_rfl)) (by decide) (fun K hK => ?_)
 refine goes_ Tryd.func33 (by kernel_rfl) rfl #[.slice Ao12 y154.length co12] (by rfl) rfl rfl (by (try simp only [List.map_toArray, List.map_cons, List.map_nil]); first | done | rfl | (simp only [List.length_drop, List.length_take]; rfl)) ?_
 with_reducible refine (cmp_Or_int.calls k _ _ y154 t157 _ ?side1 ?side2 A6.out).mono ?_
 (case side1 => repeat (first | exact (Kd.R_reads' HO156.out).2.2 | (with_reducible refine Kd.C_alloc ?_ _) | (with_reducible refine Kd.C_drewN ?_ _) | (with_reducible refine Kd.C_drew ?_)))
 (case side2 => exact (Kd.R_reads' HO156.out).2.1)
 rintro e w' ⟨rfl, ⟨nd, rfl⟩⟩
 refine ⟨_, rfl, ?_⟩
 refine hK.out _ _ ⟨(blk_cell BK149.out 0).trans rfl, (blk_cell BK149.out 1).trans rfl, (blk_cell BK149.out 2).trans rfl, (blk_cell BK150.out 0).trans rfl, (blk_cell BK150.out 1).trans rfl, (blk_cell BK150.out 2).trans rfl⟩ (fun hHeld => ?_)
 clear hK K
 refine norm_ (a' := ?_) ?_ ?_
 rotate_left
 ·show Act.put _ (some 21) _ = _
  simp only [Act.put, List.setIfInBounds_toArray, List.set_cons_zero, List.set_cons_succ, i64_w, i32_w]
  rfl
 refine pure_ (i := 17) (N := some 4) (v := ?_) (a' := ?_) #[true, true, true, true, true, true, true, true, true, true, true, true, true, true, true, true, true, true] rfl rfl (any_of HT_.out (by kernel_rfl)) (fun _ _ _ h => h) (Or.inl ⟨by rfl, ?_⟩) ?_ ?_
 rotate_left
 ·intro w'
  go_simp
  with_reducible rfl
 rotate_left
 ·simp only [Act.put, List.setIfInBounds_toArray, List.set_cons_zero, List.set_cons_succ, i64_w, i32_w]
  rfl
 refine done_ (done_of HT_.out (by kernel_rfl)) ?_
 try go_wp2
 go_ret
 exact ⟨by first | rfl | (simp [errW_none, errW_some] <;> rfl) | (simp [*, errW_none, errW_some] <;> rfl), by repeat (first | (with_reducible first | exact HB.out | apply below_alloc | apply pw_below_drewN | apply below_drew1 | refine below_set ?_ GE149.out | refine below_set ?_ GE150.out) | exact HB.out)⟩
end Go.Proofs.YtgidnkmlnccaiaaDoor.Q
-- (laid by the kit's lay-shelf and lay-plain at this seat's dump)
/- The library's contracts at this program. -/
namespace Go.Proofs
open Go.Shelf
def Tryd.lays156_ren : Go.Shelf.Ren := ⟨fun | 156 => 37 | 165 => 50 | 166 => 51 | 169 => 52 | 240 => 63 | 241 => 64 | 276 => 79 | 277 => 80 | n => n, fun | 31 => 76 | 9 => 9 | 3 => 3 | 4 => 4 | 0 => 0 | 20 => 20 | 72 => 92 | 76 => 96 | 70 => 89 | 37 => 90 | 75 => 95 | 127 => 103 | 164 => 119 | 5 => 5 | 80 => 98 | n => n, fun | n => n⟩
theorem Tryd.lays156 : Go.Proofs.Lays.n156 Tryd.prog Tryd.lays156_ren := {
 mixed := by kernel_rfl
 f156 := Tryd.func37.trans (congrArg some (by kernel_rfl))
 f165 := Tryd.func50.trans (congrArg some (by kernel_rfl))
 f166 := Tryd.func51.trans (congrArg some (by kernel_rfl))
 f169 := Tryd.func52.trans (congrArg some (by kernel_rfl))
 f240 := Tryd.func63.trans (congrArg some (by kernel_rfl))
 f241 := Tryd.func64.trans (congrArg some (by kernel_rfl))
 f276 := Tryd.func79.trans (congrArg some (by kernel_rfl))
 f277 := Tryd.func80.trans (congrArg some (by kernel_rfl))
 t0 := Tryd.underlying0
 a0 := Tryd.isAgg0
 z0 := Tryd.sizeOf0
 v0 := Tryd.zeroValue0
 t3 := Tryd.underlying3
 a3 := Tryd.isAgg3
 z3 := Tryd.sizeOf3
 v3 := Tryd.zeroValue3
 t4 := Tryd.underlying4
 a4 := Tryd.isAgg4
 z4 := Tryd.sizeOf4
 v4 := Tryd.zeroValue4
 t9 := Tryd.underlying9
 a9 := Tryd.isAgg9
 z9 := Tryd.sizeOf9
 v9 := Tryd.zeroValue9
 t20 := Tryd.underlying20
 a20 := Tryd.isAgg20
 z20 := Tryd.sizeOf20
 v20 := Tryd.zeroValue20
 t31 := Tryd.underlying76
 a31 := Tryd.isAgg76
 z31 := Tryd.sizeOf76
 v31 := Tryd.zeroValue76
 t37 := Tryd.underlying90
 a37 := Tryd.isAgg90
 z37 := Tryd.sizeOf90
 v37 := Tryd.zeroValue90
 t70 := Tryd.underlying89
 a70 := Tryd.isAgg89
 z70 := Tryd.sizeOf89
 v70 := Tryd.zeroValue89
 t72 := Tryd.underlying92
 a72 := Tryd.isAgg92
 z72 := Tryd.sizeOf92
 v72 := Tryd.zeroValue92
 t75 := Tryd.underlying95
 a75 := Tryd.isAgg95
 z75 := Tryd.sizeOf95
 v75 := Tryd.zeroValue95
 t76 := Tryd.underlying96
 a76 := Tryd.isAgg96
 z76 := Tryd.sizeOf96
 v76 := Tryd.zeroValue96
 t127 := Tryd.underlying103
 a127 := Tryd.isAgg103
 z127 := Tryd.sizeOf103
 v127 := Tryd.zeroValue103
 t164 := Tryd.underlying119
 a164 := Tryd.isAgg119
 z164 := Tryd.sizeOf119
 v164 := Tryd.zeroValue119 }
theorem Tryd.Builder_Extra_156 : Builder.Extra Tryd.prog Tryd.lays156_ren := {
 sizeBuilder := by kernel_rfl
 liesBuilder := by kernel_rfl
 t5 := Tryd.underlying5
 a5 := Tryd.isAgg5
 z5 := Tryd.sizeOf5
 v5 := Tryd.zeroValue5
 infoByte := by kernel_rfl
 cellsByte := by kernel_rfl
 sizeByte := by kernel_rfl
 neB5 := by decide }
open Go.RowKit in
theorem Tryd.strings_Join_none (a : Option Addr) (c : Nat) (sep : ByteArray) (w : World) :
  Calls Tryd.prog 37 #[.slice a 0 c, .string sep] w fun e w' => e = .returned (.string ⟨#[]⟩) ∧ w' = w := Any.strings_Join_none Tryd.lays156 Tryd.Builder_Extra_156 a c sep w
open Go.RowKit in
theorem Tryd.strings_Join (bk o c : Nat) (xs : List ByteArray) (sep : ByteArray) (w : World) (hcells : ∀ (j : Nat) x, xs[j]? = some x → w.cell? ⟨bk, o + j, none⟩ = some (.string x)) (hbk : bk < w.heap.size) (hN : xs.length ≤ 140737488355328) (hcap : xs.length ≤ c) (hlen : (Lib.join (xs.map (·.data.toList)) sep.data.toList).length ≤ 140737488355328) :
  Calls Tryd.prog 37 #[.slice (some ⟨bk, o, none⟩) xs.length c, .string sep] w fun e w' => e = .returned (.string ⟨(Lib.join (xs.map (·.data.toList)) sep.data.toList).toArray⟩) ∧ Below w.heap.size w w' := Any.strings_Join Tryd.lays156 Tryd.Builder_Extra_156 bk o c xs sep w hcells hbk hN hcap hlen
def Tryd.lays210_ren : Go.Shelf.Ren := ⟨fun | 210 => 56 | 206 => 68 | n => n, fun | 9 => 9 | 4 => 4 | 3 => 3 | n => n, fun | n => n⟩
theorem Tryd.lays210 : Go.Proofs.Lays.n210 Tryd.prog Tryd.lays210_ren := {
 mixed := by kernel_rfl
 f206 := Tryd.func68.trans (congrArg some (by kernel_rfl))
 f210 := Tryd.func56.trans (congrArg some (by kernel_rfl))
 t3 := Tryd.underlying3
 a3 := Tryd.isAgg3
 z3 := Tryd.sizeOf3
 v3 := Tryd.zeroValue3
 t4 := Tryd.underlying4
 a4 := Tryd.isAgg4
 z4 := Tryd.sizeOf4
 v4 := Tryd.zeroValue4
 t9 := Tryd.underlying9
 a9 := Tryd.isAgg9
 z9 := Tryd.sizeOf9
 v9 := Tryd.zeroValue9 }
open Go.RowKit in
theorem Tryd.stringslite_CutPrefix (s p : ByteArray) (w : World) :
  Calls Tryd.prog 56 #[.string s, .string p] w fun e w' => e = .returned (.tuple #[.string ⟨(Lib.trimPrefix s.data.toList p.data.toList).toArray⟩, .bool (Lib.hasPrefix s.data.toList p.data.toList)]) ∧ w' = w := Any.stringslite_CutPrefix Tryd.lays210 s p w
def Tryd.lays103_ren : Go.Shelf.Ren := ⟨fun | 103 => 44 | 210 => 56 | 206 => 68 | n => n, fun | 9 => 9 | 4 => 4 | 24 => 69 | 3 => 3 | n => n, fun | n => n⟩
theorem Tryd.lays103 : Go.Proofs.Lays.n103 Tryd.prog Tryd.lays103_ren := {
 mixed := by kernel_rfl
 f103 := Tryd.func44.trans (congrArg some (by kernel_rfl))
 f206 := Tryd.func68.trans (congrArg some (by kernel_rfl))
 f210 := Tryd.func56.trans (congrArg some (by kernel_rfl))
 t3 := Tryd.underlying3
 a3 := Tryd.isAgg3
 z3 := Tryd.sizeOf3
 v3 := Tryd.zeroValue3
 t4 := Tryd.underlying4
 a4 := Tryd.isAgg4
 z4 := Tryd.sizeOf4
 v4 := Tryd.zeroValue4
 t9 := Tryd.underlying9
 a9 := Tryd.isAgg9
 z9 := Tryd.sizeOf9
 v9 := Tryd.zeroValue9
 t24 := Tryd.underlying69
 a24 := Tryd.isAgg69
 z24 := Tryd.sizeOf69
 v24 := Tryd.zeroValue69 }
open Go.RowKit in
theorem Tryd.strings_CutPrefix (s p : ByteArray) (w : World) :
  Calls Tryd.prog 44 #[.string s, .string p] w fun e w' => e = .returned (.tuple #[.string ⟨(Lib.trimPrefix s.data.toList p.data.toList).toArray⟩, .bool (Lib.hasPrefix s.data.toList p.data.toList)]) ∧ w' = w := Any.strings_CutPrefix Tryd.lays103 s p w
def Tryd.lays215_ren : Go.Shelf.Ren := ⟨fun | 215 => 47 | n => n, fun | 3 => 3 | 4 => 4 | n => n, fun | n => n⟩
theorem Tryd.lays215 : Go.Proofs.Lays.n215 Tryd.prog Tryd.lays215_ren := {
 mixed := by kernel_rfl
 f215 := Tryd.func47.trans (congrArg some (by kernel_rfl))
 t3 := Tryd.underlying3
 a3 := Tryd.isAgg3
 z3 := Tryd.sizeOf3
 v3 := Tryd.zeroValue3
 t4 := Tryd.underlying4
 a4 := Tryd.isAgg4
 z4 := Tryd.sizeOf4
 v4 := Tryd.zeroValue4 }
open Go.RowKit in
theorem Tryd.cmp_isNaN_int (x : Int) (w : World) :
  Calls Tryd.prog 47 #[.int .i64 x] w fun e w' => e = .returned (.bool false) ∧ w' = w := Any.cmp_isNaN_int Tryd.lays215 x w
def Tryd.lays122_ren : Go.Shelf.Ren := ⟨fun | 122 => 34 | 215 => 47 | n => n, fun | 3 => 3 | 4 => 4 | n => n, fun | n => n⟩
theorem Tryd.lays122 : Go.Proofs.Lays.n122 Tryd.prog Tryd.lays122_ren := {
 mixed := by kernel_rfl
 f122 := Tryd.func34.trans (congrArg some (by kernel_rfl))
 f215 := Tryd.func47.trans (congrArg some (by kernel_rfl))
 t3 := Tryd.underlying3
 a3 := Tryd.isAgg3
 z3 := Tryd.sizeOf3
 v3 := Tryd.zeroValue3
 t4 := Tryd.underlying4
 a4 := Tryd.isAgg4
 z4 := Tryd.sizeOf4
 v4 := Tryd.zeroValue4 }
open Go.RowKit in
theorem Tryd.cmp_Compare_int (x y : Int) (w : World) :
  Calls Tryd.prog 34 #[.int .i64 x, .int .i64 y] w fun e w' => e = .returned (.int .i64 (Lib.compareInt x y)) ∧ w' = w := Any.cmp_Compare_int Tryd.lays122 x y w
def Tryd.laysM171_ren : Go.Shelf.Ren := ⟨fun | 171 => 36 | 243 => 49 | 246 => 62 | 283 => 75 | 284 => 76 | 285 => 77 | 286 => 78 | 129 => 90 | 317 => 92 | 318 => 93 | 319 => 94 | 320 => 95 | 337 => 101 | 338 => 102 | n => n, fun | 3 => 3 | 9 => 9 | 2 => 2 | 4 => 4 | 171 => 113 | 0 => 0 | 53 => 114 | 37 => 90 | 5 => 5 | 173 => 117 | 212 => 134 | 51 => 130 | 20 => 20 | 213 => 135 | 46 => 107 | 232 => 145 | 233 => 146 | n => n, fun | 17 => 0 | 18 => 2 | 19 => 3 | n => n⟩
theorem Tryd.laysM171 : Go.Proofs.LaysM.n171 Tryd.prog Tryd.laysM171_ren := {
 mixed := by kernel_rfl
 f129 := Tryd.func90.trans (congrArg some (by kernel_rfl))
 f171 := Tryd.func36.trans (congrArg some (by kernel_rfl))
 f243 := Tryd.func49.trans (congrArg some (by kernel_rfl))
 f246 := Tryd.func62.trans (congrArg some (by kernel_rfl))
 f283 := Tryd.func75.trans (congrArg some (by kernel_rfl))
 f284 := Tryd.func76.trans (congrArg some (by kernel_rfl))
 f285 := Tryd.func77.trans (congrArg some (by kernel_rfl))
 f286 := Tryd.func78.trans (congrArg some (by kernel_rfl))
 f317 := Tryd.func92.trans (congrArg some (by kernel_rfl))
 f318 := Tryd.func93.trans (congrArg some (by kernel_rfl))
 f319 := Tryd.func94.trans (congrArg some (by kernel_rfl))
 f320 := Tryd.func95.trans (congrArg some (by kernel_rfl))
 f337 := Tryd.func101.trans (congrArg some (by kernel_rfl))
 f338 := Tryd.func102.trans (congrArg some (by kernel_rfl))
 t0 := Tryd.underlying0
 a0 := Tryd.isAgg0
 z0 := Tryd.sizeOf0
 v0 := Tryd.zeroValue0
 t2 := Tryd.underlying2
 a2 := Tryd.isAgg2
 z2 := Tryd.sizeOf2
 v2 := Tryd.zeroValue2
 t3 := Tryd.underlying3
 a3 := Tryd.isAgg3
 z3 := Tryd.sizeOf3
 v3 := Tryd.zeroValue3
 t4 := Tryd.underlying4
 a4 := Tryd.isAgg4
 z4 := Tryd.sizeOf4
 v4 := Tryd.zeroValue4
 t5 := Tryd.underlying5
 a5 := Tryd.isAgg5
 z5 := Tryd.sizeOf5
 v5 := Tryd.zeroValue5
 t9 := Tryd.underlying9
 a9 := Tryd.isAgg9
 z9 := Tryd.sizeOf9
 v9 := Tryd.zeroValue9
 t20 := Tryd.underlying20
 a20 := Tryd.isAgg20
 z20 := Tryd.sizeOf20
 v20 := Tryd.zeroValue20
 t37 := Tryd.underlying90
 a37 := Tryd.isAgg90
 z37 := Tryd.sizeOf90
 v37 := Tryd.zeroValue90
 t46 := Tryd.underlying107
 a46 := Tryd.isAgg107
 z46 := Tryd.sizeOf107
 v46 := Tryd.zeroValue107
 t51 := Tryd.underlying130
 a51 := Tryd.isAgg130
 z51 := Tryd.sizeOf130
 v51 := Tryd.zeroValue130
 t53 := Tryd.underlying114
 a53 := Tryd.isAgg114
 z53 := Tryd.sizeOf114
 v53 := Tryd.zeroValue114
 t171 := Tryd.underlying113
 a171 := Tryd.isAgg113
 z171 := Tryd.sizeOf113
 v171 := Tryd.zeroValue113
 t173 := Tryd.underlying117
 a173 := Tryd.isAgg117
 z173 := Tryd.sizeOf117
 v173 := Tryd.zeroValue117
 t212 := Tryd.underlying134
 a212 := Tryd.isAgg134
 z212 := Tryd.sizeOf134
 v212 := Tryd.zeroValue134
 t213 := Tryd.underlying135
 a213 := Tryd.isAgg135
 z213 := Tryd.sizeOf135
 t232 := Tryd.underlying145
 a232 := Tryd.isAgg145
 z232 := Tryd.sizeOf145
 v232 := Tryd.zeroValue145
 t233 := Tryd.underlying146
 a233 := Tryd.isAgg146
 z233 := Tryd.sizeOf146
 v233 := Tryd.zeroValue146
 g17 := by kernel_rfl
 g18 := by kernel_rfl
 g19 := by kernel_rfl
 i0 := by kernel_rfl
 i2 := by kernel_rfl
 i3 := by kernel_rfl
 i4 := by kernel_rfl
 i5 := by kernel_rfl
 i9 := by kernel_rfl
 i20 := by kernel_rfl
 i37 := by kernel_rfl
 i46 := by kernel_rfl
 i51 := by kernel_rfl
 i53 := by kernel_rfl
 i171 := by kernel_rfl
 i173 := by kernel_rfl
 i212 := by kernel_rfl
 i232 := by kernel_rfl
 i233 := by kernel_rfl
 m17 := by kernel_rfl
 m18 := by kernel_rfl
 m19 := by kernel_rfl }
open Go.RowKit Go.Sort Go.Lib in
theorem Tryd.strconv_Itoa (n : Int) (h0 : -9223372036854775808 ≤ n) (h1 : n ≤ 9223372036854775807) (w : World) (htab : Lib.TabIs Tryd.prog w "internal/strconv.uint64pow10" .u64 Lib.pow10Tab) :
  Calls Tryd.prog 36 #[.int .i64 n] w fun e w' => e = .returned (.string ⟨(Lib.itoa n).toArray⟩) ∧ ∃ k os, w' = grow (w.drewN k) os := Any.strconv_Itoa Tryd.laysM171 n h0 h1 w htab
def Tryd.lays206_ren : Go.Shelf.Ren := ⟨fun | 206 => 68 | n => n, fun | 9 => 9 | 4 => 4 | 3 => 3 | n => n, fun | n => n⟩
theorem Tryd.lays206 : Go.Proofs.Lays.n206 Tryd.prog Tryd.lays206_ren := {
 mixed := by kernel_rfl
 f206 := Tryd.func68.trans (congrArg some (by kernel_rfl))
 t3 := Tryd.underlying3
 a3 := Tryd.isAgg3
 z3 := Tryd.sizeOf3
 v3 := Tryd.zeroValue3
 t4 := Tryd.underlying4
 a4 := Tryd.isAgg4
 z4 := Tryd.sizeOf4
 v4 := Tryd.zeroValue4
 t9 := Tryd.underlying9
 a9 := Tryd.isAgg9
 z9 := Tryd.sizeOf9
 v9 := Tryd.zeroValue9 }
open Go.RowKit Go.Lib in
theorem Tryd.stringslite_HasPrefix (s p : ByteArray) (w : World) :
  Calls Tryd.prog 68 #[.string s, .string p] w fun e w' => e = .returned (.bool (Lib.hasPrefix s.data.toList p.data.toList)) ∧ w' = w := Any.stringslite_HasPrefix Tryd.lays206 s p w
end Go.Proofs
/- strconv.Itoa, by the shelf; what it reads of the package-level variables. -/
namespace Go.Proofs.YtgidnkmlnccaiaaDoor.Q
open Go.RowKit Go.Proofs.YtgidnkmlnccaiaaDoorW.PrintWords Go.Proofs.YtgidnkmlnccaiaaDoorW.PrintLast Go.Proofs.YtgidnkmlnccaiaaDoorW.PrintMore
set_option linter.unusedVariables false
set_option linter.unusedSimpArgs false
open Go.Shelf
theorem var_old {n : String} {w w' : World} {cs : Array Value} (h : w.var? Tryd.prog n = some cs) (hb : Below w.heap.size w w') : w'.var? Tryd.prog n = some cs := by
 unfold World.var? at h ⊢
 cases hg : Tryd.prog.globalNamed n with
 | none => simp [hg] at h
 | some g =>
  simp only [hg, Option.bind_some] at h ⊢
  have hlt : g < w.heap.size := by
   rcases Nat.lt_or_ge g w.heap.size with h1 | h1
   ·exact h1
   ·rw [Array.getElem?_eq_none h1] at h
    cases h
  rw [hb.block g hlt]
  exact h
/-- What a call reads of the package-level variables. -/
def Glob (w : World) : Prop := Lib.TabIs Tryd.prog w "internal/strconv.uint64pow10" .u64 Lib.pow10Tab
theorem Glob.below {w w' : World} (h : Glob w) (hb : Below w.heap.size w w') : Glob w' := var_old h hb
def strconv_Itoa_36.f (a0 : Int) : Option (ByteArray) := if -9223372036854775808 ≤ a0 ∧ a0 ≤ 9223372036854775807 then some ⟨(Lib.itoa a0).toArray⟩ else none
theorem strconv_Itoa_36.calls (a0 : Int) (r : ByteArray) (w : World) (h : strconv_Itoa_36.f a0 = some r) (hG : Glob w := by first | assumption | (refine Glob.below (by assumption) ?_; repeat (first | with_reducible exact (Aside0.out (by assumption)) | (refine below_set ?_ (Aside0.out (by assumption))) | (with_reducible first | apply below_alloc | apply pw_below_drewN | apply below_drew1) | exact (Aside0.out (by assumption))))) :
  Calls Tryd.prog 36 #[.int .i64 a0] w fun e w' => e = .returned (.string r) ∧ Below w.heap.size w w' := by
 unfold strconv_Itoa_36.f at h
 split at h
 ·rename_i hs
  obtain rfl := Option.some.inj h
  clear h
  refine (Tryd.strconv_Itoa a0 hs.1 hs.2 _ hG).mono ?_
  rintro e w' ⟨rfl, k, os, rfl⟩
  exact ⟨rfl, Lib.below_grow _ _ (Nat.le_refl _) _ _⟩
 ·cases h
theorem spot_R {α : Type} {d : Kd α} {e : Nat} {w : World} {base : Nat} {ok : Nat → Prop} {A : Option Addr} {n c : Nat} {xs : List α} (h : d.R e w base ok (.slice A n c) xs) : ∀ ad, A = some ad → ad.spot = none := by
 have ho := h.2
 obtain ⟨inner, ho, _⟩ := ho
 unfold World.ownsRow at ho
 rcases ho.2 with ⟨h1, _⟩ | ⟨g, cap, cur, h1, _⟩
 ·injection h1 with h1
  intro ad ha
  rw [h1] at ha
  cases ha
 ·injection h1 with h1
  intro ad ha
  rw [h1] at ha
  injection ha with ha
  rw [← ha]
def strings_Join.f (l0 : List ByteArray) (a1 : ByteArray) : Option (ByteArray) := if l0.length ≤ 140737488355328 ∧ (Lib.join (l0.map (·.data.toList)) a1.data.toList).length ≤ 140737488355328 then some ⟨(Lib.join (l0.map (·.data.toList)) a1.data.toList).toArray⟩ else none
theorem strings_Join.calls (A0 : Option Addr) (c0 : Nat) (l0 : List ByteArray) (a1 : ByteArray) (r : ByteArray) (w : World) (hr0 : Kd.C Kd.string w A0 l0.length l0) (hc0 : l0.length ≤ c0) (h : strings_Join.f l0 a1 = some r) (hsp : ∀ ad, A0 = some ad → ad.spot = none := by first | exact spot_R (Aside0.out (by assumption)) | (intro ad ha; cases ha; rfl)) :
  Calls Tryd.prog 37 #[.slice A0 l0.length c0, .string a1] w fun e w' => e = .returned (.string r) ∧ Below w.heap.size w w' := by
 unfold strings_Join.f at h
 split at h
 case isFalse => cases h
 rename_i hlen
 obtain rfl := Option.some.inj h
 by_cases hn : 0 < l0.length
 ·obtain ⟨ad, e, hc⟩ := hr0.2.2 hn
  have hs := hsp ad e
  obtain ⟨bk, o, sp⟩ := ad
  obtain rfl : sp = none := hs
  subst e
  have hcells : ∀ (j : Nat) x, l0[j]? = some x → w.cell? ⟨bk, o + j, none⟩ = some (.string x) := fun j x hj => by
   obtain ⟨cs, h1, h2, h3⟩ := hc j x hj
   have h4 : cs = [.string x] := h2
   subst h4
   have h5 := h3 0 _ rfl
   have e1 : (Addr.add ⟨bk, o, none⟩ (j * Kd.string.sz + 0)) = ⟨bk, o + j, none⟩ := by
    have : j * Kd.string.sz + 0 = j := by show j * 1 + 0 = j; omega
    rw [this]
    unfold Addr.add
    split
    ·rename_i h0; subst h0; rfl
    ·rfl
   rwa [e1] at h5
  have hbk : bk < w.heap.size := by
   have hx := hcells 0 _ (List.getElem?_eq_getElem hn)
   rcases Nat.lt_or_ge bk w.heap.size with h | h
   ·exact h
   ·unfold World.cell? at hx
    simp [Array.getElem?_eq_none h] at hx
  refine (Tryd.strings_Join bk o c0 l0 a1 w hcells hbk hlen.1 hc0 hlen.2).mono ?_
  rintro e w' ⟨rfl, hb⟩
  exact ⟨rfl, hb⟩
 ·obtain rfl : l0 = [] := List.eq_nil_of_length_eq_zero (by omega)
  refine (Tryd.strings_Join_none A0 c0 a1 w).mono ?_
  rintro e w' ⟨rfl, rfl⟩
  exact ⟨rfl, Below.refl _ _⟩
end Go.Proofs.YtgidnkmlnccaiaaDoor.Q
namespace Go.Proofs.YtgidnkmlnccaiaaDoor.Q
open Go.RowKit Go.Proofs.YtgidnkmlnccaiaaDoorW.PrintWords Go.Proofs.YtgidnkmlnccaiaaDoorW.PrintLast Go.Proofs.YtgidnkmlnccaiaaDoorW.PrintMore
attribute [local go_sem] max2_int min2_int max_two min_two max_three min_three max_four min_four   -- for this text's walks alone
set_option linter.unusedVariables false
set_option linter.unusedSimpArgs false
/-! ### node_Text: function 13 -/
mutual
def node_Text.j0 : Nat → Bool → Int → Int → ByteArray → Option (ByteArray)
 | 0, _, _, _, _ => none
 | k + 1, x11, x178000, x178001, x178002 => if x11 = true then (some (⟨#[]⟩ : ByteArray)) else ((some (([(⟨#[]⟩ : ByteArray), (⟨#[115, 105, 116, 101]⟩ : ByteArray), (⟨#[111, 117, 116, 101, 114]⟩ : ByteArray), (⟨#[99, 97, 108, 108, 101, 101]⟩ : ByteArray), (⟨#[101, 118, 101, 114, 121]⟩ : ByteArray)] : List ByteArray) : List ByteArray)).bind fun y178 => (if 0 ≤ x178000 then (if x178000 < (y178.length : Int) then ((some (([rdOf ByteArray.empty y178 x178000] : List ByteArray) : List ByteArray)).bind fun y182 => (if x178000 = 1 then (node_Text.j1 k y182 true x178000 x178001 x178002) else (node_Text.j1 k y182 (x178000 == 3) x178000 x178001 x178002))) else (none)) else (none)))
def node_Text.j1 : Nat → List ByteArray → Bool → Int → Int → ByteArray → Option (ByteArray)
 | 0, _, _, _, _, _ => none
 | k + 1, x3, x25, x178000, x178001, x178002 => if x25 = true then ((strconv_Itoa_36.f x178001).bind fun t185 => (if x3.length < 8796093022208 then ((some (x3 ++ [t185] : List ByteArray)).bind fun y186 => (if y186.length < 8796093022208 then ((strings_Join.f (y186 ++ [x178002]) (⟨#[32]⟩ : ByteArray)).bind fun t192 => (some t192)) else (none))) else (none))) else (if x3.length < 8796093022208 then ((strings_Join.f (x3 ++ [x178002]) (⟨#[32]⟩ : ByteArray)).bind fun t196 => (some t196)) else (none))
end
def node_Text.f (k : Nat) (a0_0 : Int) (a0_1 : Int) (a0_2 : ByteArray) : Option (ByteArray) := if a0_0 < 1 then (node_Text.j0 k true a0_0 a0_1 a0_2) else (node_Text.j0 k (decide (a0_0 > 4)) a0_0 a0_1 a0_2)
theorem node_Text.mono_l : ∀ k, (∀ y0 y1 y2 y3, LeO (node_Text.j0 k y0 y1 y2 y3) (node_Text.j0 (k + 1) y0 y1 y2 y3)) ∧ (∀ y0 y1 y2 y3 y4, LeO (node_Text.j1 k y0 y1 y2 y3 y4) (node_Text.j1 (k + 1) y0 y1 y2 y3 y4))
 | 0 => ⟨fun _ _ _ _ r h => by simp [node_Text.j0] at h, fun _ _ _ _ _ r h => by simp [node_Text.j1] at h⟩
 | k + 1 => by
  obtain ⟨ih0, ih1⟩ := node_Text.mono_l k
  refine ⟨?_, ?_⟩
  ·intro y0 y1 y2 y3
   unfold node_Text.j0
   repeat' first
   | (with_reducible exact ih0 _ _ _ _)
   | (with_reducible exact ih1 _ _ _ _ _)
   | (with_reducible exact LeO.refl _)
   | (with_reducible exact LeO.none _)
   | (with_reducible refine LeO.ite ?_ ?_)
   | (with_reducible refine LeO.bind ?_ (fun _ => ?_))
   | exact ih0 _ _ _ _
   | exact ih1 _ _ _ _ _
   | exact LeO.none _
   | refine LeO.ite ?_ ?_
   | refine LeO.bind ?_ (fun _ => ?_)
  ·intro y0 y1 y2 y3 y4
   unfold node_Text.j1
   repeat' first
   | (with_reducible exact ih0 _ _ _ _)
   | (with_reducible exact ih1 _ _ _ _ _)
   | (with_reducible exact LeO.refl _)
   | (with_reducible exact LeO.none _)
   | (with_reducible refine LeO.ite ?_ ?_)
   | (with_reducible refine LeO.bind ?_ (fun _ => ?_))
   | exact ih0 _ _ _ _
   | exact ih1 _ _ _ _ _
   | exact LeO.none _
   | refine LeO.ite ?_ ?_
   | refine LeO.bind ?_ (fun _ => ?_)
theorem node_Text.mono : ∀ a0 a1 a2 k, LeO (node_Text.f k a0 a1 a2) (node_Text.f (k + 1) a0 a1 a2) := by
 intro a0 a1 a2 k
 obtain ⟨ih0, ih1⟩ := node_Text.mono_l k
 unfold node_Text.f
 repeat' first
   | (with_reducible exact ih0 _ _ _ _)
   | (with_reducible exact ih1 _ _ _ _ _)
   | (with_reducible exact LeO.refl _)
   | (with_reducible exact LeO.none _)
   | (with_reducible refine LeO.ite ?_ ?_)
   | (with_reducible refine LeO.bind ?_ (fun _ => ?_))
   | exact ih0 _ _ _ _
   | exact ih1 _ _ _ _ _
   | exact LeO.none _
   | refine LeO.ite ?_ ?_
   | refine LeO.bind ?_ (fun _ => ?_)
set_option maxHeartbeats 8000000 in
set_option maxRecDepth 100000 in
theorem node_Text.calls (k : Nat) (a0_0 : Int) (a0_1 : Int) (a0_2 : ByteArray) (r : ByteArray) (w : World) (h : node_Text.f k a0_0 a0_1 a0_2 = some r) (hG : Glob w := by first | assumption | (refine Glob.below (by assumption) ?_; repeat (first | with_reducible exact (Aside0.out (by assumption)) | (refine below_set ?_ (Aside0.out (by assumption))) | (with_reducible first | apply below_alloc | apply pw_below_drewN | apply below_drew1) | exact (Aside0.out (by assumption))))) :
  Calls Tryd.prog 13 #[.agg #[.int .i64 a0_0, .int .i64 a0_1, .string a0_2]] w fun e w' => e = .returned (.string r) ∧ Below w.heap.size w w' := by
 have hu24 := Tryd.underlying24
 have HB := Aside0.mk (Below.refl w.heap.size w)
 have H : (if a0_0 < 1 then (node_Text.j0 k true a0_0 a0_1 a0_2) else (node_Text.j0 k (decide (a0_0 > 4)) a0_0 a0_1 a0_2)) = some r := h
 clear h
 have HC2 := Aside0.mk H
 clear H
 go_enter Tryd.func13, Tryd.ntmps13
 go_upto_region 1 with (first | ((with_reducible refine gate_dst (N := 1) rfl ?_); refine box_event ?hg (N := 1) ?hd (cs := #[.int .i64 a0_0, .int .i64 a0_1, .string a0_2]) (t := 24) ?hr ?_; (case hd => rfl); (case hg => rfl); (case hr => first | (go_simp; done) | (go_simp; rfl)); intro gb177 hg w3 hbox hb; have n0_ := Aside0.mk (below_step (by repeat (first | (with_reducible first | exact HB.out | apply below_alloc | apply pw_below_drewN | apply below_drew1) | exact HB.out)) hb); have n1_ := Aside0.mk (hbox); have n2_ := Aside0.mk ((by rw [hg]; exact (below_size (by repeat (first | (with_reducible first | exact HB.out | apply below_alloc | apply pw_below_drewN | apply below_drew1) | exact HB.out))) : w.heap.size ≤ gb177)); have n3_ := Aside0.mk ((by rw [hg]; exact (below_size (by repeat (first | (with_reducible first | exact HB.out | apply below_alloc | apply pw_below_drewN | apply below_drew1) | exact HB.out))) : w.heap.size ≤ gb177)); clear HB; have HB := n0_; have BK177 := n1_; have GW177 := n2_; have GE177 := n3_; clear n0_ n1_ n2_ n3_; clear hb hbox hg))
 (try simp only [Act.put, List.setIfInBounds_toArray, List.set_cons_zero, List.set_cons_succ])
 go_cut [11] (fun v11 wc => ∃ (kq : Nat) (x11_1 : Bool), v11 = .bool x11_1 ∧ Aside0 (node_Text.j0 kq x11_1 a0_0 a0_1 a0_2 = some r) ∧ Aside0 (kq ≤ k) ∧ Aside0 (wc.heap[gb177]? = some (.cells #[.int .i64 a0_0, .int .i64 a0_1, .string a0_2] 24 (0, 0))) ∧ Aside0 (Below w.heap.size w wc))
 case first =>
  have H := HC2.out
  clear HC2
  by_cases c4 : a0_0 < 1
  ·rw [if_pos c4] at H
   have c4b0 : decide (a0_0 < 1) = true := decide_eq_true c4
   clear c4
   (first | rw [c4b0] | rw [c4b1] | rw [c4b4] | (simp only [i64_w, i32_w]; rw [c4b0]) | skip)
   have H' := Aside0.mk H
   clear H
   have hcz5_0 : w3.cell? ⟨gb177, 0, none⟩ = some (.int .i64 a0_0) := (blk_cell BK177.out 0).trans rfl
   have hcz5_1 : w3.cell? ⟨gb177, 1, none⟩ = some (.int .i64 a0_1) := (blk_cell BK177.out 1).trans rfl
   have hcz5_2 : w3.cell? ⟨gb177, 2, none⟩ = some (.string a0_2) := (blk_cell BK177.out 2).trans rfl
   have hfz5_0 := blk_frozen BK177.out 0
   have hfz5_1 := blk_frozen BK177.out 1
   have hfz5_2 := blk_frozen BK177.out 2
   go_wp2
   go_meet
   case rel => exact ⟨_, (true), (by first | rfl | (simp; done) | (simp [*]; done)), H', ⟨by first | omega | exact Nat.le_refl _⟩, ⟨by (with_reducible repeat (first | refine blk_drewN ?_ _ | refine blk_drew ?_ | refine blk_alloc ?_ _)); exact BK177.out⟩, ⟨by repeat (first | (with_reducible first | exact HB.out | apply below_alloc | apply pw_below_drewN | apply below_drew1 | refine below_set ?_ GE177.out) | exact HB.out)⟩⟩
  ·rw [if_neg c4] at H
   have c4b0 : decide (a0_0 < 1) = false := decide_eq_false c4
   clear c4
   (first | rw [c4b0] | rw [c4b1] | rw [c4b4] | (simp only [i64_w, i32_w]; rw [c4b0]) | skip)
   have H' := Aside0.mk H
   clear H
   have hcz6_0 : w3.cell? ⟨gb177, 0, none⟩ = some (.int .i64 a0_0) := (blk_cell BK177.out 0).trans rfl
   have hcz6_1 : w3.cell? ⟨gb177, 1, none⟩ = some (.int .i64 a0_1) := (blk_cell BK177.out 1).trans rfl
   have hcz6_2 : w3.cell? ⟨gb177, 2, none⟩ = some (.string a0_2) := (blk_cell BK177.out 2).trans rfl
   have hfz6_0 := blk_frozen BK177.out 0
   have hfz6_1 := blk_frozen BK177.out 1
   have hfz6_2 := blk_frozen BK177.out 2
   go_wp2
   go_meet
   case rel => exact ⟨_, (decide (a0_0 > 4)), (by first | rfl | (simp; done) | (simp [*]; done)), H', ⟨by first | omega | exact Nat.le_refl _⟩, ⟨by (with_reducible repeat (first | refine blk_drewN ?_ _ | refine blk_drew ?_ | refine blk_alloc ?_ _)); exact BK177.out⟩, ⟨by repeat (first | (with_reducible first | exact HB.out | apply below_alloc | apply pw_below_drewN | apply below_drew1 | refine below_set ?_ GE177.out) | exact HB.out)⟩⟩
 case rest =>
  clear HC2
  try clear c1
  try clear p2
  try clear c4
  try clear c4b0
  try clear hcz5_0
  try clear hcz5_1
  try clear hcz5_2
  try clear hcz6_0
  try clear hcz6_1
  try clear hcz6_2
  try clear hfz5_0
  try clear hfz5_1
  try clear hfz5_2
  try clear hfz6_0
  try clear hfz6_1
  try clear hfz6_2
  obtain ⟨kq, x11_1, rfl, HA, HJ1, BK177, HB⟩ := hcut
  cases kq with
  | zero => exact absurd HA.out (by simp [node_Text.j0])
  | succ kj1 =>
   have H := HA.out
   clear HA
   simp only [node_Text.j0] at H
   by_cases c7 : x11_1 = true
   ·subst c7
    have H1 : (some (⟨#[]⟩ : ByteArray)) = some r := by rw [if_pos rfl] at H; exact H
    clear H
    have H := H1
    clear H1
    obtain rfl := Option.some.inj H
    go_wp2
    go_ret
    exact ⟨by first | rfl | (simp [errW_none, errW_some] <;> rfl) | (simp [*, errW_none, errW_some] <;> rfl), by repeat (first | (with_reducible first | exact HB.out | apply below_alloc | apply pw_below_drewN | apply below_drew1 | refine below_set ?_ GE177.out) | exact HB.out)⟩
   ·replace c7 := Bool.eq_false_iff.mpr c7
    subst c7
    have H1 : ((some (([(⟨#[]⟩ : ByteArray), (⟨#[115, 105, 116, 101]⟩ : ByteArray), (⟨#[111, 117, 116, 101, 114]⟩ : ByteArray), (⟨#[99, 97, 108, 108, 101, 101]⟩ : ByteArray), (⟨#[101, 118, 101, 114, 121]⟩ : ByteArray)] : List ByteArray) : List ByteArray)).bind fun y178 => (if 0 ≤ a0_0 then (if a0_0 < (y178.length : Int) then ((some (([rdOf ByteArray.empty y178 a0_0] : List ByteArray) : List ByteArray)).bind fun y182 => (if a0_0 = 1 then (node_Text.j1 kj1 y182 true a0_0 a0_1 a0_2) else (node_Text.j1 kj1 y182 (a0_0 == 3) a0_0 a0_1 a0_2))) else (none)) else (none))) = some r := by rw [if_neg (show ¬ (false = true) by decide)] at H; exact H
    clear H
    have H := H1
    clear H1
    obtain ⟨y178, hy178⟩ : ∃ y_ : List ByteArray, y_ = (([(⟨#[]⟩ : ByteArray), (⟨#[115, 105, 116, 101]⟩ : ByteArray), (⟨#[111, 117, 116, 101, 114]⟩ : ByteArray), (⟨#[99, 97, 108, 108, 101, 101]⟩ : ByteArray), (⟨#[101, 118, 101, 114, 121]⟩ : ByteArray)] : List ByteArray)) := ⟨_, rfl⟩
    replace H : (if 0 ≤ a0_0 then (if a0_0 < (y178.length : Int) then ((some (([rdOf ByteArray.empty y178 a0_0] : List ByteArray) : List ByteArray)).bind fun y182 => (if a0_0 = 1 then (node_Text.j1 kj1 y182 true a0_0 a0_1 a0_2) else (node_Text.j1 kj1 y182 (a0_0 == 3) a0_0 a0_1 a0_2))) else (none)) else (none)) = some r := by first | (rw [hy178]; with_reducible exact H) | (have H2_ := (Option.bind_some _ _).symm.trans H; rw [hy178]; with_reducible exact H2_) | (have H2_ := (Option.bind_some _ _).symm.trans H; with_reducible exact H2_) | with_reducible exact H | (rw [hy178]; exact H) | exact H
    have Ny178 := Aside0.mk hy178
    clear hy178
    by_cases c8 : 0 ≤ a0_0
    ·rw [if_pos c8] at H
     have c8b0 : decide (0 ≤ a0_0) = true := decide_eq_true c8
     clear c8
     by_cases c9 : a0_0 < (y178.length : Int)
     ·rw [if_pos c9] at H
      have c9b0 : decide (a0_0 < (y178.length : Int)) = true := decide_eq_true c9
      clear c9
      obtain ⟨y182, hy182⟩ : ∃ y_ : List ByteArray, y_ = (([rdOf ByteArray.empty y178 a0_0] : List ByteArray)) := ⟨_, rfl⟩
      replace H : (if a0_0 = 1 then (node_Text.j1 kj1 y182 true a0_0 a0_1 a0_2) else (node_Text.j1 kj1 y182 (a0_0 == 3) a0_0 a0_1 a0_2)) = some r := by first | (rw [hy182]; with_reducible exact H) | (have H2_ := (Option.bind_some _ _).symm.trans H; rw [hy182]; with_reducible exact H2_) | (have H2_ := (Option.bind_some _ _).symm.trans H; with_reducible exact H2_) | with_reducible exact H | (rw [hy182]; exact H) | exact H
      have Ny182 := Aside0.mk hy182
      clear hy182
      have HC10 := Aside0.mk H
      clear H
      go_upto_region 4 with (first | ((with_reducible refine gate_dst (N := 12) rfl ?_); refine Kd.R_lit Kd.string _ 9 ?hg (N := 12) ?hd (xs := ([(⟨#[]⟩ : ByteArray), (⟨#[115, 105, 116, 101]⟩ : ByteArray), (⟨#[111, 117, 116, 101, 114]⟩ : ByteArray), (⟨#[99, 97, 108, 108, 101, 101]⟩ : ByteArray), (⟨#[101, 118, 101, 114, 121]⟩ : ByteArray)] : List ByteArray)) (inner := [.string (⟨#[]⟩ : ByteArray), .string (⟨#[115, 105, 116, 101]⟩ : ByteArray), .string (⟨#[111, 117, 116, 101, 114]⟩ : ByteArray), .string (⟨#[99, 97, 108, 108, 101, 101]⟩ : ByteArray), .string (⟨#[101, 118, 101, 114, 121]⟩ : ByteArray)]) (ok := fun _ => True) (okp := fun _ => True) ?hr ?hp (fun _ hk => hk) trivial (Below.refl _ _) (Nat.le_refl _) (by simp) ?_; (case hd => rfl); (case hg => rfl); (case hr => first | (go_simp; done) | (go_simp; rfl)); (case hp => exact (Reps.one (show Kd.M Kd.string _ _ _ (⟨#[]⟩ : ByteArray) [.string (⟨#[]⟩ : ByteArray)] from rfl) (Reps.one (show Kd.M Kd.string _ _ _ (⟨#[115, 105, 116, 101]⟩ : ByteArray) [.string (⟨#[115, 105, 116, 101]⟩ : ByteArray)] from rfl) (Reps.one (show Kd.M Kd.string _ _ _ (⟨#[111, 117, 116, 101, 114]⟩ : ByteArray) [.string (⟨#[111, 117, 116, 101, 114]⟩ : ByteArray)] from rfl) (Reps.one (show Kd.M Kd.string _ _ _ (⟨#[99, 97, 108, 108, 101, 101]⟩ : ByteArray) [.string (⟨#[99, 97, 108, 108, 101, 101]⟩ : ByteArray)] from rfl) (Reps.one (show Kd.M Kd.string _ _ _ (⟨#[101, 118, 101, 114, 121]⟩ : ByteArray) [.string (⟨#[101, 118, 101, 114, 121]⟩ : ByteArray)] from rfl) (Reps.none _ _))))))); intro v179 w11 ho12 hb hg_ hnew_; clear hg_ hnew_; (first | rw [← Ny178.out] at ho12 | (simp only [Int.reduceToNat] at ho12; rw [← Ny178.out] at ho12)); have n0_ := Aside0.mk (Kd.R_lower ho12 (below_size (by repeat (first | (with_reducible first | exact HB.out | apply below_alloc | apply pw_below_drewN | apply below_drew1 | refine below_set ?_ GE177.out) | exact HB.out)))); have n1_ := Aside0.mk (blk_below (g := gb177) (o := .cells #[.int .i64 a0_0, .int .i64 a0_1, .string a0_2] 24 (0, 0)) (by (with_reducible repeat (first | refine blk_drewN ?_ _ | refine blk_drew ?_ | refine blk_alloc ?_ _)); exact BK177.out) hb); have n2_ := Aside0.mk (below_step (by repeat (first | (with_reducible first | exact HB.out | apply below_alloc | apply pw_below_drewN | apply below_drew1 | refine below_set ?_ GE177.out) | exact HB.out)) hb); clear BK177; clear HB; have HO180 := n0_; have BK177 := n1_; have HB := n2_; clear n0_ n1_ n2_; clear hb ho12; have hcz13_0 : w11.cell? ⟨gb177, 0, none⟩ = some (.int .i64 a0_0) := (blk_cell BK177.out 0).trans rfl; have hcz13_1 : w11.cell? ⟨gb177, 1, none⟩ = some (.int .i64 a0_1) := (blk_cell BK177.out 1).trans rfl; have hcz13_2 : w11.cell? ⟨gb177, 2, none⟩ = some (.string a0_2) := (blk_cell BK177.out 2).trans rfl; have hfz13_0 := blk_frozen BK177.out 0; have hfz13_1 := blk_frozen BK177.out 1; have hfz13_2 := blk_frozen BK177.out 2; obtain ⟨Ao14, co14, eo14⟩ := Kd.R_slice HO180.out; subst eo14; have p181 : 0 ≤ (a0_0 : Int) := of_decide_eq_true (by first | (with_reducible assumption) | assumption); have q181 : a0_0 < (y178.length : Int) := of_decide_eq_true (by first | (with_reducible assumption) | assumption); obtain ⟨ad181, e181, hx181_0⟩ := Kd.at_string (Kd.R_reads' HO180.out).2.2 a0_0 p181 q181; cases e181; replace p181 := eq_true p181; replace q181 := eq_true q181) | ((with_reducible refine gate_dst (N := 17) rfl ?_); refine Kd.R_lit Kd.string _ 9 ?hg (N := 17) ?hd (xs := ([rdOf ByteArray.empty y178 a0_0] : List ByteArray)) (inner := [.string (rdOf ByteArray.empty y178 a0_0)]) (ok := fun _ => True) (okp := fun _ => True) ?hr ?hp (fun _ hk => hk) trivial (Below.refl _ _) (Nat.le_refl _) (by simp) ?_; (case hd => rfl); (case hg => rfl); (case hr => first | (go_simp; done) | (go_simp; rfl)); (case hp => exact (Reps.one (show Kd.M Kd.string _ _ _ (rdOf ByteArray.empty y178 a0_0) [.string (rdOf ByteArray.empty y178 a0_0)] from rfl) (Reps.none _ _))); intro v183 w15 ho16 hb hg_ hnew_; clear hg_ hnew_; (first | rw [← Ny182.out] at ho16 | (simp only [Int.reduceToNat] at ho16; rw [← Ny182.out] at ho16)); have n0_ := Aside0.mk (Kd.R_elder' (by (with_reducible repeat (first | apply Kd.R_alloc | apply Kd.R_drewN | apply Kd.R_drew)); exact HO180.out) (Kd.R_base ho16) hb); have n1_ := Aside0.mk (Kd.R_lower (Kd.R_new' ho16 (Kd.R_lt (by (with_reducible repeat (first | apply Kd.R_alloc | apply Kd.R_drewN | apply Kd.R_drew)); exact HO180.out))) (below_size (by repeat (first | (with_reducible first | exact HB.out | apply below_alloc | apply pw_below_drewN | apply below_drew1 | refine below_set ?_ GE177.out) | exact HB.out)))); have n2_ := Aside0.mk (blk_below (g := gb177) (o := .cells #[.int .i64 a0_0, .int .i64 a0_1, .string a0_2] 24 (0, 0)) (by (with_reducible repeat (first | refine blk_drewN ?_ _ | refine blk_drew ?_ | refine blk_alloc ?_ _)); exact BK177.out) hb); have n3_ := Aside0.mk (below_step (by repeat (first | (with_reducible first | exact HB.out | apply below_alloc | apply pw_below_drewN | apply below_drew1 | refine below_set ?_ GE177.out) | exact HB.out)) hb); clear HO180; clear BK177; clear HB; have HO180 := n0_; have HO184 := n1_; have BK177 := n2_; have HB := n3_; clear n0_ n1_ n2_ n3_; clear hb ho16))
      (try simp only [Act.put, List.setIfInBounds_toArray, List.set_cons_zero, List.set_cons_succ])
      go_cut [25] (fun v25 wc => ∃ (kq : Nat) (x25_9 : Bool), v25 = .bool x25_9 ∧ Aside0 (node_Text.j1 kq y182 x25_9 a0_0 a0_1 a0_2 = some r) ∧ Aside0 (kq ≤ kj1) ∧ Aside0 (Kd.R Kd.string 9 wc w.heap.size (fun _ => True) v183 y182) ∧ Aside0 (wc.heap[gb177]? = some (.cells #[.int .i64 a0_0, .int .i64 a0_1, .string a0_2] 24 (0, 0))) ∧ Aside0 (Below w.heap.size w wc))
      case first =>
       have H := HC10.out
       clear HC10
       by_cases c17 : a0_0 = 1
       ·rw [if_pos c17] at H
        have c17b0 : (a0_0 == 1) = true := beq_iff_eq.mpr c17
        have c17b1 : (a0_0 != 1) = false := bne_eq_false_iff_eq.mpr c17
        clear c17
        (first | rw [c17b0] | rw [c17b1] | rw [c17b4] | (simp only [i64_w, i32_w]; rw [c17b0]) | skip)
        have H' := Aside0.mk H
        clear H
        have hcz18_0 : w15.cell? ⟨gb177, 0, none⟩ = some (.int .i64 a0_0) := (blk_cell BK177.out 0).trans rfl
        have hcz18_1 : w15.cell? ⟨gb177, 1, none⟩ = some (.int .i64 a0_1) := (blk_cell BK177.out 1).trans rfl
        have hcz18_2 : w15.cell? ⟨gb177, 2, none⟩ = some (.string a0_2) := (blk_cell BK177.out 2).trans rfl
        have hfz18_0 := blk_frozen BK177.out 0
        have hfz18_1 := blk_frozen BK177.out 1
        have hfz18_2 := blk_frozen BK177.out 2
        go_wp2
        go_meet
        case rel => exact ⟨_, (true), (by first | rfl | (simp; done) | (simp [*]; done)), H', ⟨by have := HJ1.out; first | omega | exact Nat.le_refl _⟩, ⟨by (with_reducible repeat (first | apply Kd.R_alloc | apply Kd.R_drewN | apply Kd.R_drew)); exact Kd.R_mono HO184.out (fun _ hk => trivial)⟩, ⟨by (with_reducible repeat (first | refine blk_drewN ?_ _ | refine blk_drew ?_ | refine blk_alloc ?_ _)); exact BK177.out⟩, ⟨by repeat (first | (with_reducible first | exact HB.out | apply below_alloc | apply pw_below_drewN | apply below_drew1 | refine below_set ?_ GE177.out) | exact HB.out)⟩⟩
       ·rw [if_neg c17] at H
        have c17b0 : (a0_0 == 1) = false := beq_eq_false_iff_ne.mpr c17
        have c17b1 : (a0_0 != 1) = true := bne_iff_ne.mpr c17
        (first | rw [c17b0] | rw [c17b1] | rw [c17b4] | (simp only [i64_w, i32_w]; rw [c17b0]) | skip)
        have H' := Aside0.mk H
        clear H
        have hcz19_0 : w15.cell? ⟨gb177, 0, none⟩ = some (.int .i64 a0_0) := (blk_cell BK177.out 0).trans rfl
        have hcz19_1 : w15.cell? ⟨gb177, 1, none⟩ = some (.int .i64 a0_1) := (blk_cell BK177.out 1).trans rfl
        have hcz19_2 : w15.cell? ⟨gb177, 2, none⟩ = some (.string a0_2) := (blk_cell BK177.out 2).trans rfl
        have hfz19_0 := blk_frozen BK177.out 0
        have hfz19_1 := blk_frozen BK177.out 1
        have hfz19_2 := blk_frozen BK177.out 2
        go_wp2
        go_meet
        case rel => exact ⟨_, ((a0_0 == 3)), (by first | rfl | (simp; done) | (simp [*]; done)), H', ⟨by have := HJ1.out; first | omega | exact Nat.le_refl _⟩, ⟨by (with_reducible repeat (first | apply Kd.R_alloc | apply Kd.R_drewN | apply Kd.R_drew)); exact Kd.R_mono HO184.out (fun _ hk => trivial)⟩, ⟨by (with_reducible repeat (first | refine blk_drewN ?_ _ | refine blk_drew ?_ | refine blk_alloc ?_ _)); exact BK177.out⟩, ⟨by repeat (first | (with_reducible first | exact HB.out | apply below_alloc | apply pw_below_drewN | apply below_drew1 | refine below_set ?_ GE177.out) | exact HB.out)⟩⟩
      case rest =>
       clear HC10
       try clear c1
       try clear p1
       try clear q1
       try clear hx1
       try clear p2
       try clear c4
       try clear c4b0
       try clear c7
       try clear c8
       try clear c8b0
       try clear c9
       try clear c9b0
       try clear c13
       try clear c17
       try clear c17b0
       try clear c17b1
       try clear p18
       try clear q18
       try clear hx18
       try clear hcz13_0
       try clear hcz13_1
       try clear hcz13_2
       try clear hcz18_0
       try clear hcz18_1
       try clear hcz18_2
       try clear hcz19_0
       try clear hcz19_1
       try clear hcz19_2
       try clear hcz5_0
       try clear hcz5_1
       try clear hcz5_2
       try clear hcz6_0
       try clear hcz6_1
       try clear hcz6_2
       try clear hfz13_0
       try clear hfz13_1
       try clear hfz13_2
       try clear hfz18_0
       try clear hfz18_1
       try clear hfz18_2
       try clear hfz19_0
       try clear hfz19_1
       try clear hfz19_2
       try clear hfz5_0
       try clear hfz5_1
       try clear hfz5_2
       try clear hfz6_0
       try clear hfz6_1
       try clear hfz6_2
       try clear hx181_0
       try clear p181
       try clear p2
       try clear q181
       obtain ⟨kq, x25_9, rfl, HA, HJ9, HO_3, BK177, HB⟩ := hcut
       cases kq with
       | zero => exact absurd HA.out (by simp [node_Text.j1])
       | succ kj9 =>
        have H := HA.out
        clear HA
        simp only [node_Text.j1] at H
        by_cases c20 : x25_9 = true
        ·subst c20
         have H1 : ((strconv_Itoa_36.f a0_1).bind fun t185 => (if y182.length < 8796093022208 then ((some (y182 ++ [t185] : List ByteArray)).bind fun y186 => (if y186.length < 8796093022208 then ((strings_Join.f (y186 ++ [a0_2]) (⟨#[32]⟩ : ByteArray)).bind fun t192 => (some t192)) else (none))) else (none))) = some r := by rw [if_pos rfl] at H; exact H
         clear H
         have H := H1
         clear H1
         replace H := Option.bind_eq_some_iff.mp H
         obtain ⟨t185, A210, H⟩ := H
         replace H : (if y182.length < 8796093022208 then ((some (y182 ++ [t185] : List ByteArray)).bind fun y186 => (if y186.length < 8796093022208 then ((strings_Join.f (y186 ++ [a0_2]) (⟨#[32]⟩ : ByteArray)).bind fun t192 => (some t192)) else (none))) else (none)) = some r := H
         have A21 := Aside0.mk A210
         clear A210
         by_cases c22 : y182.length < 8796093022208
         ·rw [if_pos c22] at H
          have LMc22 := Aside0.mk c22
          clear c22
          obtain ⟨y186, hy186⟩ : ∃ y_ : List ByteArray, y_ = (y182 ++ [t185]) := ⟨_, rfl⟩
          replace H : (if y186.length < 8796093022208 then ((strings_Join.f (y186 ++ [a0_2]) (⟨#[32]⟩ : ByteArray)).bind fun t192 => (some t192)) else (none)) = some r := by first | (rw [hy186]; with_reducible exact H) | (have H2_ := (Option.bind_some _ _).symm.trans H; rw [hy186]; with_reducible exact H2_) | (have H2_ := (Option.bind_some _ _).symm.trans H; with_reducible exact H2_) | with_reducible exact H | (rw [hy186]; exact H) | exact H
          have Ny186 := Aside0.mk hy186
          clear hy186
          by_cases c23 : y186.length < 8796093022208
          ·rw [if_pos c23] at H
           have LMc23 := Aside0.mk c23
           clear c23
           obtain ⟨y189, hy189⟩ : ∃ y_ : List ByteArray, y_ = (y186 ++ [a0_2]) := ⟨_, rfl⟩
           replace H : ((strings_Join.f y189 (⟨#[32]⟩ : ByteArray)).bind fun t192 => (some t192)) = some r := by first | (rw [hy189]; with_reducible exact H) | (have H2_ := (Option.bind_some _ _).symm.trans H; rw [hy189]; with_reducible exact H2_) | (have H2_ := (Option.bind_some _ _).symm.trans H; with_reducible exact H2_) | with_reducible exact H | (rw [hy189]; exact H) | exact H
           have Ny189 := Aside0.mk hy189
           clear hy189
           replace H := Option.bind_eq_some_iff.mp H
           obtain ⟨t192, A240, H⟩ := H
           replace H : (some t192) = some r := H
           have A24 := Aside0.mk A240
           clear A240
           obtain rfl := Option.some.inj H
           have hcz25_0 : wc.cell? ⟨gb177, 0, none⟩ = some (.int .i64 a0_0) := (blk_cell BK177.out 0).trans rfl
           have hcz25_1 : wc.cell? ⟨gb177, 1, none⟩ = some (.int .i64 a0_1) := (blk_cell BK177.out 1).trans rfl
           have hcz25_2 : wc.cell? ⟨gb177, 2, none⟩ = some (.string a0_2) := (blk_cell BK177.out 2).trans rfl
           have hfz25_0 := blk_frozen BK177.out 0
           have hfz25_1 := blk_frozen BK177.out 1
           have hfz25_2 := blk_frozen BK177.out 2
           go_wp2_with (first | ((with_reducible refine gate_callee (f := 36) rfl ?_); refine goesL_ (some 29) rfl rfl Tryd.func36 (by kernel_rfl) rfl #[.int .i64 a0_1] rfl (by (try simp only [List.map_toArray, List.map_cons, List.map_nil]); first | done | rfl | (simp only [List.length_drop, List.length_take]; rfl)) ?_; (with_reducible refine (strconv_Itoa_36.calls a0_1 t185 _ A21.out).mono ?_); rintro e w26 ⟨rfl, hb⟩; refine ⟨_, rfl, ?_⟩; have n0_ := Aside0.mk (Kd.R_below (by (with_reducible repeat (first | apply Kd.R_alloc | apply Kd.R_drewN | apply Kd.R_drew)); exact HO_3.out) hb); have n1_ := Aside0.mk (blk_below (g := gb177) (o := .cells #[.int .i64 a0_0, .int .i64 a0_1, .string a0_2] 24 (0, 0)) (by (with_reducible repeat (first | refine blk_drewN ?_ _ | refine blk_drew ?_ | refine blk_alloc ?_ _)); exact BK177.out) hb); have n2_ := Aside0.mk (below_step (by repeat (first | (with_reducible first | exact HB.out | apply below_alloc | apply pw_below_drewN | apply below_drew1 | refine below_set ?_ GE177.out) | exact HB.out)) hb); clear HO_3; clear BK177; clear HB; have HO_3 := n0_; have BK177 := n1_; have HB := n2_; clear n0_ n1_ n2_; (try clear hb); (try clear hb2); (try clear hk); (try clear hi)) | ((with_reducible refine gate_builtin (b := .append) (xs := #[.tmp 26, .tmp 30]) rfl ?_); at_builtin; refine Kd.R_append Kd.string (w0 := w) w.heap.size rfl (.tmp 26) (.tmp 30) 76 9 (.string ⟨#[]⟩) 16 rfl Tryd.underlying76 info9 rfl (by decide) (by omega) v183 y182 t185 [.string t185] (fun _ => True) (fun _ => False) rfl rfl ?aP (fun _ hk => hk.elim) ?aF ?aO ?aB ?aS ?aL ?_; (case aP => exact rfl); (case aB => exact (by repeat (first | (with_reducible first | exact HB.out | apply below_alloc | apply pw_below_drewN | apply below_drew1 | refine below_set ?_ GE177.out) | exact HB.out))); (case aF => exact (fun _ _ => trivial)); (case aO => exact (by (with_reducible repeat (first | apply Kd.R_alloc | apply Kd.R_drewN | apply Kd.R_drew)); exact HO_3.out)); (case aS => exact (below_size (by repeat (first | (with_reducible first | exact HB.out | apply below_alloc | apply pw_below_drewN | apply below_drew1 | refine below_set ?_ GE177.out) | exact HB.out)))); (case aL => have := LMc22.out; omega); intro v187 w27 ho hb hg hat; rw [← Ny186.out] at ho; have n0_ := Aside0.mk (blk_grown (g := gb177) (o := .cells #[.int .i64 a0_0, .int .i64 a0_1, .string a0_2] 24 (0, 0)) (by (with_reducible repeat (first | refine blk_drewN ?_ _ | refine blk_drew ?_ | refine blk_alloc ?_ _)); exact BK177.out) hg (Kd.R_ne HO_3.out BK177.out (by decide))); have n1_ := Aside0.mk (hb); have n2_ := Aside0.mk (ho); clear BK177; clear HB; clear HO_3; have BK177 := n0_; have HB := n1_; have HO188 := n2_; clear n0_ n1_ n2_; clear ho hb hg hat; have hcz28_0 : w27.cell? ⟨gb177, 0, none⟩ = some (.int .i64 a0_0) := (blk_cell BK177.out 0).trans rfl; have hcz28_1 : w27.cell? ⟨gb177, 1, none⟩ = some (.int .i64 a0_1) := (blk_cell BK177.out 1).trans rfl; have hcz28_2 : w27.cell? ⟨gb177, 2, none⟩ = some (.string a0_2) := (blk_cell BK177.out 2).trans rfl; have hfz28_0 := blk_frozen BK177.out 0; have hfz28_1 := blk_frozen BK177.out 1; have hfz28_2 := blk_frozen BK177.out 2) | ((with_reducible refine gate_builtin (b := .append) (xs := #[.tmp 32, .tmp 35]) rfl ?_); at_builtin; refine Kd.R_append Kd.string (w0 := w) w.heap.size rfl (.tmp 32) (.tmp 35) 76 9 (.string ⟨#[]⟩) 16 rfl Tryd.underlying76 info9 rfl (by decide) (by omega) v187 y186 a0_2 [.string a0_2] (fun _ => True) (fun _ => False) rfl rfl ?aP (fun _ hk => hk.elim) ?aF ?aO ?aB ?aS ?aL ?_; (case aP => exact rfl); (case aB => exact (by repeat (first | (with_reducible first | exact HB.out | apply below_alloc | apply pw_below_drewN | apply below_drew1 | refine below_set ?_ GE177.out) | exact HB.out))); (case aF => exact (fun _ _ => trivial)); (case aO => exact (by (with_reducible repeat (first | apply Kd.R_alloc | apply Kd.R_drewN | apply Kd.R_drew)); exact HO188.out)); (case aS => exact (below_size (by repeat (first | (with_reducible first | exact HB.out | apply below_alloc | apply pw_below_drewN | apply below_drew1 | refine below_set ?_ GE177.out) | exact HB.out)))); (case aL => have := LMc23.out; omega); intro v190 w29 ho hb hg hat; rw [← Ny189.out] at ho; have n0_ := Aside0.mk (blk_grown (g := gb177) (o := .cells #[.int .i64 a0_0, .int .i64 a0_1, .string a0_2] 24 (0, 0)) (by (with_reducible repeat (first | refine blk_drewN ?_ _ | refine blk_drew ?_ | refine blk_alloc ?_ _)); exact BK177.out) hg (Kd.R_ne HO188.out BK177.out (by decide))); have n1_ := Aside0.mk (hb); have n2_ := Aside0.mk (ho); clear BK177; clear HB; clear HO188; have BK177 := n0_; have HB := n1_; have HO191 := n2_; clear n0_ n1_ n2_; clear ho hb hg hat; obtain ⟨Ao30, co30, eo30⟩ := Kd.R_slice HO191.out; subst eo30) | ((with_reducible refine gate_callee (f := 37) rfl ?_); refine goesL_ (some 37) rfl rfl Tryd.func37 (by kernel_rfl) rfl #[.slice Ao30 y189.length co30, .string (⟨#[32]⟩ : ByteArray)] rfl (by (try simp only [List.map_toArray, List.map_cons, List.map_nil]); first | done | rfl | (simp only [List.length_drop, List.length_take]; rfl)) ?_; (with_reducible refine (strings_Join.calls _ _ y189 (⟨#[32]⟩ : ByteArray) t192 _ ?side1 ?side2 A24.out).mono ?_); (case side1 => repeat (first | exact (Kd.R_reads' HO191.out).2.2 | (with_reducible refine Kd.C_alloc ?_ _) | (with_reducible refine Kd.C_drewN ?_ _) | (with_reducible refine Kd.C_drew ?_))); (case side2 => exact (Kd.R_reads' HO191.out).2.1); rintro e w31 ⟨rfl, hb⟩; refine ⟨_, rfl, ?_⟩; have n0_ := Aside0.mk (Kd.R_below (by (with_reducible repeat (first | apply Kd.R_alloc | apply Kd.R_drewN | apply Kd.R_drew)); exact HO191.out) hb); have n1_ := Aside0.mk (blk_below (g := gb177) (o := .cells #[.int .i64 a0_0, .int .i64 a0_1, .string a0_2] 24 (0, 0)) (by (with_reducible repeat (first | refine blk_drewN ?_ _ | refine blk_drew ?_ | refine blk_alloc ?_ _)); exact BK177.out) hb); have n2_ := Aside0.mk (below_step (by repeat (first | (with_reducible first | exact HB.out | apply below_alloc | apply pw_below_drewN | apply below_drew1 | refine below_set ?_ GE177.out) | exact HB.out)) hb); clear HO191; clear BK177; clear HB; have HO191 := n0_; have BK177 := n1_; have HB := n2_; clear n0_ n1_ n2_; (try clear hb); (try clear hb2); (try clear hk); (try clear hi)))
           go_ret
           exact ⟨by first | rfl | (simp [errW_none, errW_some] <;> rfl) | (simp [*, errW_none, errW_some] <;> rfl), by repeat (first | (with_reducible first | exact HB.out | apply below_alloc | apply pw_below_drewN | apply below_drew1 | refine below_set ?_ GE177.out) | exact HB.out)⟩
          ·rw [if_neg c23] at H
           exact absurd H (by simp)
         ·rw [if_neg c22] at H
          exact absurd H (by simp)
        ·replace c20 := Bool.eq_false_iff.mpr c20
         subst c20
         have H1 : (if y182.length < 8796093022208 then ((strings_Join.f (y182 ++ [a0_2]) (⟨#[32]⟩ : ByteArray)).bind fun t196 => (some t196)) else (none)) = some r := by rw [if_neg (show ¬ (false = true) by decide)] at H; exact H
         clear H
         have H := H1
         clear H1
         by_cases c32 : y182.length < 8796093022208
         ·rw [if_pos c32] at H
          have LMc32 := Aside0.mk c32
          clear c32
          obtain ⟨y193, hy193⟩ : ∃ y_ : List ByteArray, y_ = (y182 ++ [a0_2]) := ⟨_, rfl⟩
          replace H : ((strings_Join.f y193 (⟨#[32]⟩ : ByteArray)).bind fun t196 => (some t196)) = some r := by first | (rw [hy193]; with_reducible exact H) | (have H2_ := (Option.bind_some _ _).symm.trans H; rw [hy193]; with_reducible exact H2_) | (have H2_ := (Option.bind_some _ _).symm.trans H; with_reducible exact H2_) | with_reducible exact H | (rw [hy193]; exact H) | exact H
          have Ny193 := Aside0.mk hy193
          clear hy193
          replace H := Option.bind_eq_some_iff.mp H
          obtain ⟨t196, A330, H⟩ := H
          replace H : (some t196) = some r := H
          have A33 := Aside0.mk A330
          clear A330
          obtain rfl := Option.some.inj H
          have hcz34_0 : wc.cell? ⟨gb177, 0, none⟩ = some (.int .i64 a0_0) := (blk_cell BK177.out 0).trans rfl
          have hcz34_1 : wc.cell? ⟨gb177, 1, none⟩ = some (.int .i64 a0_1) := (blk_cell BK177.out 1).trans rfl
          have hcz34_2 : wc.cell? ⟨gb177, 2, none⟩ = some (.string a0_2) := (blk_cell BK177.out 2).trans rfl
          have hfz34_0 := blk_frozen BK177.out 0
          have hfz34_1 := blk_frozen BK177.out 1
          have hfz34_2 := blk_frozen BK177.out 2
          go_wp2_with (first | ((with_reducible refine gate_builtin (b := .append) (xs := #[.tmp 32, .tmp 35]) rfl ?_); at_builtin; refine Kd.R_append Kd.string (w0 := w) w.heap.size rfl (.tmp 32) (.tmp 35) 76 9 (.string ⟨#[]⟩) 16 rfl Tryd.underlying76 info9 rfl (by decide) (by omega) v183 y182 a0_2 [.string a0_2] (fun _ => True) (fun _ => False) rfl rfl ?aP (fun _ hk => hk.elim) ?aF ?aO ?aB ?aS ?aL ?_; (case aP => exact rfl); (case aB => exact (by repeat (first | (with_reducible first | exact HB.out | apply below_alloc | apply pw_below_drewN | apply below_drew1 | refine below_set ?_ GE177.out) | exact HB.out))); (case aF => exact (fun _ _ => trivial)); (case aO => exact (by (with_reducible repeat (first | apply Kd.R_alloc | apply Kd.R_drewN | apply Kd.R_drew)); exact HO_3.out)); (case aS => exact (below_size (by repeat (first | (with_reducible first | exact HB.out | apply below_alloc | apply pw_below_drewN | apply below_drew1 | refine below_set ?_ GE177.out) | exact HB.out)))); (case aL => have := LMc32.out; omega); intro v194 w35 ho hb hg hat; rw [← Ny193.out] at ho; have n0_ := Aside0.mk (blk_grown (g := gb177) (o := .cells #[.int .i64 a0_0, .int .i64 a0_1, .string a0_2] 24 (0, 0)) (by (with_reducible repeat (first | refine blk_drewN ?_ _ | refine blk_drew ?_ | refine blk_alloc ?_ _)); exact BK177.out) hg (Kd.R_ne HO_3.out BK177.out (by decide))); have n1_ := Aside0.mk (hb); have n2_ := Aside0.mk (ho); clear BK177; clear HB; clear HO_3; have BK177 := n0_; have HB := n1_; have HO195 := n2_; clear n0_ n1_ n2_; clear ho hb hg hat; obtain ⟨Ao36, co36, eo36⟩ := Kd.R_slice HO195.out; subst eo36) | ((with_reducible refine gate_callee (f := 37) rfl ?_); refine goesL_ (some 37) rfl rfl Tryd.func37 (by kernel_rfl) rfl #[.slice Ao36 y193.length co36, .string (⟨#[32]⟩ : ByteArray)] rfl (by (try simp only [List.map_toArray, List.map_cons, List.map_nil]); first | done | rfl | (simp only [List.length_drop, List.length_take]; rfl)) ?_; (with_reducible refine (strings_Join.calls _ _ y193 (⟨#[32]⟩ : ByteArray) t196 _ ?side1 ?side2 A33.out).mono ?_); (case side1 => repeat (first | exact (Kd.R_reads' HO195.out).2.2 | (with_reducible refine Kd.C_alloc ?_ _) | (with_reducible refine Kd.C_drewN ?_ _) | (with_reducible refine Kd.C_drew ?_))); (case side2 => exact (Kd.R_reads' HO195.out).2.1); rintro e w37 ⟨rfl, hb⟩; refine ⟨_, rfl, ?_⟩; have n0_ := Aside0.mk (Kd.R_below (by (with_reducible repeat (first | apply Kd.R_alloc | apply Kd.R_drewN | apply Kd.R_drew)); exact HO195.out) hb); have n1_ := Aside0.mk (blk_below (g := gb177) (o := .cells #[.int .i64 a0_0, .int .i64 a0_1, .string a0_2] 24 (0, 0)) (by (with_reducible repeat (first | refine blk_drewN ?_ _ | refine blk_drew ?_ | refine blk_alloc ?_ _)); exact BK177.out) hb); have n2_ := Aside0.mk (below_step (by repeat (first | (with_reducible first | exact HB.out | apply below_alloc | apply pw_below_drewN | apply below_drew1 | refine below_set ?_ GE177.out) | exact HB.out)) hb); clear HO195; clear BK177; clear HB; have HO195 := n0_; have BK177 := n1_; have HB := n2_; clear n0_ n1_ n2_; (try clear hb); (try clear hb2); (try clear hk); (try clear hi)))
          go_ret
          exact ⟨by first | rfl | (simp [errW_none, errW_some] <;> rfl) | (simp [*, errW_none, errW_some] <;> rfl), by repeat (first | (with_reducible first | exact HB.out | apply below_alloc | apply pw_below_drewN | apply below_drew1 | refine below_set ?_ GE177.out) | exact HB.out)⟩
         ·rw [if_neg c32] at H
          exact absurd H (by simp)
     ·rw [if_neg c9] at H
      exact absurd H (by simp)
    ·rw [if_neg c8] at H
     exact absurd H (by simp)
end Go.Proofs.YtgidnkmlnccaiaaDoor.Q
/- A map to bools as a set of keys: laws for the walk; and small words on rows. -/
namespace Go.Proofs.YtgidnkmlnccaiaaDoor.Q
open Go.RowKit Go.Proofs.YtgidnkmlnccaiaaDoorW.PrintWords Go.Proofs.YtgidnkmlnccaiaaDoorW.PrintLast Go.Proofs.YtgidnkmlnccaiaaDoorW.PrintMore
set_option linter.unusedVariables false
set_option linter.unusedSimpArgs false
open Go.Maps (Keyed)
section
variable {P : Program} {k e t : TypeId} {w w1 : World} {b : Nat} {S : List Lit}
theorem plain_bool_inv {v : Value} {x : Bool} {ps : List MemPlace} (he : P.underlying e = some .bool) (h : plainElem (H := Unit) P e v = some (.lit (.bool x), ps)) : v = .bool x := by
 unfold plainElem at h
 rw [he] at h
 cases v <;> simp at h
 obtain ⟨rfl, _⟩ := h
 rfl
end
theorem lit_R {α : Type} (d : Kd α) {W : World} (base e : Nat) {xs : List α} {inner : List Value} {ok okp : Nat → Prop}
  (hrep : Reps (d.M W base okp) d.sz xs inner) (hok : ∀ k, okp k → ok k) (hfresh : ok W.heap.size) (hbase : base ≤ W.heap.size) (hm : xs.length ≤ 9223372036854775807) :
  d.R e (W.alloc (.cells inner.toArray e)) base ok (.slice (some ⟨W.heap.size, 0, none⟩) xs.length xs.length) xs := by
 refine ⟨fun k hk => ?_, inner, ?_, ?_⟩
 ·have : W.heap.size = k := by simpa [Value.ownBlock] using hk
  subst this
  exact hfresh
 ·have h2 := World.ownsRow_lit (base := base) (e := e) (size := d.sz) W inner.toArray xs.length hbase (by simpa [maxLen] using hm) (by simpa using hrep.1)
  simpa using h2
 ·refine hrep.imp_ (fun p c hp => d.M_mono (fun k hk => ⟨hok k hk.1, fun he => ?_⟩) (Kd.M_below (d.M_bound hp) (below_alloc (Below.refl _ _) _)))
  have h3 : k = W.heap.size := by simpa [Value.ownBlock] using he
  have := hk.2.2.1
  omega
theorem at_scalar {α : Type} {enc : α → Value} {h1 : ∀ x, (enc x).oneCell' = true} {w : World} {A : Option Addr} {n : Nat} {xs : List α} (h : Kd.C (Kd.scalar enc h1) w A n xs) (z : α) (k : Nat) (hk : k < n) : ∃ ad, A = some ad ∧ w.cell? (ad.add k) = some (enc (xs.getD k z)) := by
 obtain ⟨e1, e2, h⟩ := h
 obtain ⟨ad, ea, h⟩ := h (by omega)
 have hl : k < xs.length := by omega
 obtain ⟨c, hc, hK, hcell⟩ := h k _ (List.getElem?_eq_getElem hl)
 refine ⟨ad, ea, ?_⟩
 have hK' : c = [enc xs[k]] := hK
 subst hK'
 have := hcell 0 _ rfl
 have e : k * (Kd.scalar enc h1).sz + 0 = k := by show k * 1 + 0 = k; omega
 rw [e] at this
 rw [this, getD_at xs z hl]
theorem at_int {q : IntKind} {w : World} {A : Option Addr} {n : Nat} {xs : List Int} (h : Kd.C (Kd.int q) w A n xs) (k : Nat) (hk : k < n) : ∃ ad, A = some ad ∧ w.cell? (ad.add k) = some (.int q (xs.getD k 0)) := at_scalar (enc := Value.int q) h _ k hk
abbrev Nd := S24
def ndV (x : Nd) : Value := .agg #[.int .i64 x.f0, .int .i64 x.f1, .string x.f2]
/-- A node whose numbers are numbers, and whose text is a text. -/
def ndW (x : Nd) : Prop := (Lit.int .i64 x.f0).wf = true ∧ (Lit.int .i64 x.f1).wf = true ∧ x.f2.size ≤ maxLen
/-- Its key. -/
def nl (x : Nd) : Lit := .string (keyBytes [.int .i64 x.f0, .int .i64 x.f1, .string x.f2.data.toList])
theorem nd_deep : Tryd.prog.keyTypeAt 2 24 = true := by kernel_rfl
theorem nd_tiled : Tryd.prog.tiled 2 24 = true := by kernel_rfl
theorem nd_law : Keyed Tryd.prog 24 := Keyed.of_law (deep_law (m := 2) (by omega) nd_deep nd_tiled (by rw [Tryd.underlying24]))
theorem types_pos : decide (0 < Tryd.prog.types.size) = true := by kernel_rfl
theorem types_size : ∃ d, Tryd.prog.types.size = d + 1 := ⟨Tryd.prog.types.size - 1, by have := of_decide_eq_true types_pos; omega⟩
theorem kl_int (d : Nat) (n : Int) (h : (Lit.int .i64 n).wf = true) : Tryd.prog.keyLits (d + 1) 3 [.int .i64 n] = some [.int .i64 n] := by
 unfold Program.keyLits
 rw [Tryd.underlying3]
 simp [h]
theorem kl_str (d : Nat) (s : ByteArray) (h : s.size ≤ maxLen) : Tryd.prog.keyLits (d + 1) 9 [.string s] = some [.string s.data.toList] := by
 unfold Program.keyLits
 rw [Tryd.underlying9]
 simp [h]
theorem cells_nd : Tryd.prog.cellsOf 24 = 3 := by kernel_rfl
theorem cells_int : Tryd.prog.cellsOf 3 = 1 := by kernel_rfl
theorem cells_str : Tryd.prog.cellsOf 9 = 1 := by kernel_rfl
theorem nd_keyType : Tryd.prog.keyType 24 = true := by kernel_rfl
theorem nd_key {x : Nd} (h : ndW x) : keyOf Tryd.prog 24 (ndV x) = some (nl x) := by
 obtain ⟨h1, h2, h3⟩ := h
 unfold ndV nl
 have hf : (Value.agg #[.int .i64 x.f0, .int .i64 x.f1, .string x.f2]).formed Tryd.prog 24 = true := by
  unfold Value.formed
  simp only [Tryd.underlying24, cells_nd]; rfl
 obtain ⟨d, hd⟩ := types_size
 have hl : Tryd.prog.keyLits (Tryd.prog.types.size + 1) 24 [.int .i64 x.f0, .int .i64 x.f1, .string x.f2] = some [.int .i64 x.f0, .int .i64 x.f1, .string x.f2.data.toList] := by
  rw [hd]
  unfold Program.keyLits
  simp only [Tryd.underlying24, cells_nd]
  simp [cells_int, cells_str, kl_int d x.f0 h1, kl_int d x.f1 h2, kl_str d x.f2 h3]
 unfold keyOf
 simp only [Tryd.underlying24, nd_keyType, hf, Bool.and_self, if_true]
 show (Tryd.prog.keyLits (Tryd.prog.types.size + 1) 24 [.int .i64 x.f0, .int .i64 x.f1, .string x.f2]).map _ = _
 rw [hl]; rfl
theorem ndV_inj {x y : Nd} (h : ndV x = ndV y) : x = y := by
 unfold ndV at h
 cases x; cases y
 simp_all
theorem nl_inj {x y : Nd} (hx : ndW x) (hy : ndW y) (h : nl x = nl y) : x = y := ndV_inj (nd_law.inj (nd_key hx) (by rw [h]; exact nd_key hy))
theorem nl_lit (x : Nd) : WideAt.IsKeyLit (nl x) := trivial
/-- The order of nodes. -/
def ltN (a b : Nd) : Bool := if a.f0 = b.f0 then (if a.f1 = b.f1 then Op.bytesLess a.f2.toList b.f2.toList else decide (a.f1 < b.f1)) else decide (a.f0 < b.f0)
def eqN (a b : Nd) : Bool := decide (a.f0 = b.f0) && decide (a.f1 = b.f1) && decide (a.f2 = b.f2)
theorem eqN_iff {a b : Nd} : eqN a b = true ↔ a = b := by
 unfold eqN
 rw [Bool.and_eq_true, Bool.and_eq_true, decide_eq_true_eq, decide_eq_true_eq, decide_eq_true_eq]
 constructor
 ·rintro ⟨⟨h1, h2⟩, h3⟩
  cases a; cases b; simp_all
 ·rintro rfl; exact ⟨⟨rfl, rfl⟩, rfl⟩
/-- A row in order, with one more. -/
def addR : List Nd → Nd → List Nd
 | [], x => [x]
 | y :: r, x => if eqN y x = true then y :: r else if ltN x y = true then x :: y :: r else y :: addR r x
theorem addR_mem (x z : Nd) : ∀ r, z ∈ addR r x ↔ z ∈ r ∨ z = x
 | [] => by simp [addR]
 | y :: r => by
  unfold addR
  by_cases h1 : eqN y x = true
  ·rw [if_pos h1]
   have := eqN_iff.mp h1
   subst this
   simp only [List.mem_cons]
   exact ⟨.inl, fun h => h.elim id .inl⟩
  ·rw [if_neg h1]
   by_cases h2 : ltN x y = true
   ·rw [if_pos h2]; simp only [List.mem_cons]; exact ⟨fun h => h.elim .inr .inl, fun h => h.elim .inr .inl⟩
   ·rw [if_neg h2, List.mem_cons, addR_mem x z r, List.mem_cons]
    exact or_assoc.symm
theorem addR_has {x : Nd} : ∀ {r : List Nd}, r.Pairwise (fun a b => ltN a b = true) → (∀ a b, ltN a b = true → ltN b a = false) → x ∈ r → addR r x = r
 | [], _, _, h => by cases h
 | y :: r, hs, ha, h => by
  unfold addR
  by_cases h1 : eqN y x = true
  ·rw [if_pos h1]
  ·rw [if_neg h1]
   have hxr : x ∈ r := by
    rcases List.mem_cons.mp h with h | h
    ·exact absurd (eqN_iff.mpr h.symm) h1
    ·exact h
   have hyx := (List.pairwise_cons.mp hs).1 x hxr
   rw [if_neg (by rw [ha _ _ hyx]; decide), addR_has (List.pairwise_cons.mp hs).2 ha hxr]
theorem addR_len {x : Nd} : ∀ {r : List Nd}, x ∉ r → (addR r x).length = r.length + 1
 | [], _ => rfl
 | y :: r, h => by
  unfold addR
  rw [List.mem_cons] at h
  rw [if_neg (fun e => h (.inl (eqN_iff.mp e).symm))]
  split
  ·rfl
  ·rw [List.length_cons, addR_len (fun e => h (.inr e)), List.length_cons]
theorem ltN_irrefl (a : Nd) : ltN a a = false := by unfold ltN; rw [if_pos rfl, if_pos rfl, bl_irrefl]
theorem ltN_asymm {a b : Nd} (h : ltN a b = true) : ltN b a = false := by
 unfold ltN at h ⊢
 by_cases h0 : a.f0 = b.f0
 ·rw [if_pos h0] at h
  rw [if_pos h0.symm]
  by_cases h1 : a.f1 = b.f1
  ·rw [if_pos h1] at h
   rw [if_pos h1.symm]
   exact bl_asymm h
  ·rw [if_neg h1] at h
   rw [if_neg (fun e => h1 e.symm)]
   have := of_decide_eq_true h
   exact decide_eq_false (by omega)
 ·rw [if_neg h0] at h
  rw [if_neg (fun e => h0 e.symm)]
  have := of_decide_eq_true h
  exact decide_eq_false (by omega)
theorem ltN_trans {a b c : Nd} (h : ltN a b = true) (k : ltN b c = true) : ltN a c = true := by
 unfold ltN at h k ⊢
 by_cases h0 : a.f0 = b.f0
 ·rw [if_pos h0] at h
  by_cases k0 : b.f0 = c.f0
  ·rw [if_pos k0] at k
   rw [if_pos (h0.trans k0)]
   by_cases h1 : a.f1 = b.f1
   ·rw [if_pos h1] at h
    by_cases k1 : b.f1 = c.f1
    ·rw [if_pos k1] at k
     rw [if_pos (h1.trans k1)]
     exact bl_trans h k
    ·rw [if_neg k1] at k
     rw [if_neg (by rw [h1]; exact k1), h1]; exact k
   ·rw [if_neg h1] at h
    have := of_decide_eq_true h
    by_cases k1 : b.f1 = c.f1
    ·rw [if_neg (by omega)]; exact decide_eq_true (by omega)
    ·rw [if_neg k1] at k
     have := of_decide_eq_true k
     rw [if_neg (by omega)]; exact decide_eq_true (by omega)
  ·rw [if_neg k0] at k
   rw [if_neg (by rw [h0]; exact k0), h0]; exact k
 ·rw [if_neg h0] at h
  have := of_decide_eq_true h
  by_cases k0 : b.f0 = c.f0
  ·rw [if_neg (by omega)]; exact decide_eq_true (by omega)
  ·rw [if_neg k0] at k
   have := of_decide_eq_true k
   rw [if_neg (by omega)]; exact decide_eq_true (by omega)
theorem ltN_total {a b : Nd} (h : ltN a b = false) (k : ltN b a = false) : a = b := by
 unfold ltN at h k
 by_cases h0 : a.f0 = b.f0
 ·rw [if_pos h0] at h
  rw [if_pos h0.symm] at k
  by_cases h1 : a.f1 = b.f1
  ·rw [if_pos h1] at h
   rw [if_pos h1.symm] at k
   have h2 := bytes_eq (bl_total h k)
   cases a; cases b; simp_all
  ·rw [if_neg h1] at h
   rw [if_neg (fun e => h1 e.symm)] at k
   have := of_decide_eq_false h; have := of_decide_eq_false k
   omega
 ·rw [if_neg h0] at h
  rw [if_neg (fun e => h0 e.symm)] at k
  have := of_decide_eq_false h; have := of_decide_eq_false k
  omega
/-- In order, each once. -/
abbrev Up (r : List Nd) : Prop := r.Pairwise (fun a b => ltN a b = true)
theorem addR_up {x : Nd} : ∀ {r : List Nd}, Up r → Up (addR r x)
 | [], _ => List.pairwise_singleton _ _
 | y :: r, h => by
  obtain ⟨h1, h2⟩ := List.pairwise_cons.mp h
  unfold addR
  by_cases e1 : eqN y x = true
  ·rw [if_pos e1]; exact h
  ·rw [if_neg e1]
   by_cases e2 : ltN x y = true
   ·rw [if_pos e2]
    refine List.pairwise_cons.mpr ⟨fun z hz => ?_, h⟩
    rcases List.mem_cons.mp hz with hz | hz
    ·rw [hz]; exact e2
    ·exact ltN_trans e2 (h1 z hz)
   ·rw [if_neg e2]
    refine List.pairwise_cons.mpr ⟨fun z hz => ?_, addR_up h2⟩
    rcases (addR_mem x z r).mp hz with hz | hz
    ·exact h1 z hz
    ·rw [hz]
     cases e3 : ltN y x
     ·exact absurd (eqN_iff.mpr (ltN_total e3 (by simpa using e2))) e1
     ·rfl
theorem Up.nodup {r : List Nd} (h : Up r) : r.Nodup := h.imp (fun {a b} hab e => by rw [e, ltN_irrefl] at hab; cases hab)
/-- Two rows in order with the same nodes are the same. -/
theorem up_ext : ∀ {r s : List Nd}, Up r → Up s → (∀ x, x ∈ r ↔ x ∈ s) → r = s
 | [], [], _, _, _ => rfl
 | [], y :: s, _, _, h => absurd ((h y).mpr (by simp)) (by simp)
 | x :: r, [], _, _, h => absurd ((h x).mp (by simp)) (by simp)
 | x :: r, y :: s, hr, hs, h => by
  obtain ⟨r1, r2⟩ := List.pairwise_cons.mp hr
  obtain ⟨s1, s2⟩ := List.pairwise_cons.mp hs
  have e : x = y := by
   rcases List.mem_cons.mp ((h x).mp (by simp)) with e | e
   ·exact e
   ·rcases List.mem_cons.mp ((h y).mpr (by simp)) with e2 | e2
    ·exact e2.symm
    ·have a1 := s1 x e
     have a2 := ltN_asymm (r1 y e2)
     rw [a1] at a2; cases a2
  subst e
  rw [up_ext r2 s2 (fun z => ?_)]
  constructor
  ·intro hz
   rcases List.mem_cons.mp ((h z).mp (List.mem_cons_of_mem _ hz)) with e | e
   ·have := r1 z hz; rw [e, ltN_irrefl] at this; cases this
   ·exact e
  ·intro hz
   rcases List.mem_cons.mp ((h z).mpr (List.mem_cons_of_mem _ hz)) with e | e
   ·have := s1 z hz; rw [e, ltN_irrefl] at this; cases this
   ·exact e
abbrev tM : TypeId := 48
/-- What a map's data say of a set. -/
structure DataR (D : DataW Unit) (r : List Nd) : Prop where
 tidy : Maps.Tidy D
 up : Up r
 wf : ∀ x ∈ r, ndW x
 has : ∀ x, ndW x → (Maps.has D (nl x) = true ↔ x ∈ r)
 keys : ∀ l, Maps.has D l = true → ∃ x ∈ r, l = nl x
 val : ∀ l z, Maps.has D l = true → D.atKey l z = .lit (.bool true)
 size : Maps.size D = r.length
theorem DataR.empty : DataR (.map []) [] := ⟨Maps.tidy_empty, List.Pairwise.nil, fun x hx => (nomatch hx), fun x _ => ⟨fun h => (nomatch h), fun h => (nomatch h)⟩, fun l h => (nomatch h), fun l z h => (nomatch h), rfl⟩
theorem DataR.put {D : DataW Unit} {r : List Nd} (h : DataR D r) {x : Nd} (hx : ndW x) : DataR (D.put (nl x) (.lit (.bool true))) (addR r x) := by
 have hm := h.tidy.isMap
 have hhas : ∀ l, Maps.has (D.put (nl x) (.lit (.bool true))) l = true ↔ (Maps.has D l = true ∨ l = nl x) := fun l => by
  by_cases e : l = nl x
  ·rw [e, Maps.has_put_same hm (nl_lit x)]; exact ⟨fun _ => .inr rfl, fun _ => rfl⟩
  ·rw [Maps.has_put_other e]; exact ⟨.inl, fun h => h.elim id (fun e2 => absurd e2 e)⟩
 refine ⟨h.tidy.put (nl_lit x) _, addR_up h.up, fun y hy => ?_, fun y hy => ?_, fun l hl => ?_, fun l z hl => ?_, ?_⟩
 ·rcases (addR_mem x y r).mp hy with hy | hy
  ·exact h.wf y hy
  ·rw [hy]; exact hx
 ·rw [hhas, addR_mem, h.has y hy]
  exact ⟨fun h => h.imp id (nl_inj hy hx), fun h => h.imp id (fun e => by rw [e])⟩
 ·rcases (hhas l).mp hl with hl | hl
  ·obtain ⟨y, hy, e⟩ := h.keys l hl
   exact ⟨y, (addR_mem x y r).mpr (.inl hy), e⟩
  ·exact ⟨x, (addR_mem x x r).mpr (.inr rfl), hl⟩
 ·by_cases e : l = nl x
  ·rw [e, Maps.atKey_put_same hm (nl_lit x)]
  ·rw [Maps.atKey_put_other e]
   exact h.val l z (((hhas l).mp hl).resolve_right e)
 ·rw [Maps.size_put h.tidy, h.size]
  by_cases hm2 : x ∈ r
  ·rw [if_pos ((h.has x hx).mpr hm2), addR_has h.up (fun a b hab => ltN_asymm hab) hm2]
  ·rw [if_neg (fun e => hm2 ((h.has x hx).mp e)), addR_len hm2]
/-- Block b is a set of nodes. -/
def SetR (w : World) (b : Nat) (r : List Nd) : Prop := ∃ D, w.ownsMap (H := Unit) Tryd.prog 24 (plainElem Tryd.prog 4) b r.length D ∧ DataR D r
theorem owns_tight {w : World} {b n : Nat} {D : DataW Unit} {k e : TypeId} (h : w.ownsMap Tryd.prog k (plainElem Tryd.prog e) b n D) : w.ownsMap Tryd.prog k (plainElem Tryd.prog e) b (Maps.size D) D := by
 obtain ⟨es, clock, hb, F, hs, hD⟩ := h
 refine ⟨es, clock, hb, F, ?_, hD⟩
 rw [hD, Maps.size_eq, length_read]
 exact Nat.le_refl _
theorem zeroNb (w : World) : (zeroValue 4).run Tryd.prog w = .ok (.bool false) w := by kernel_rfl
section
variable {w w1 : World} {b : Nat} {r : List Nd}
theorem SetR.made (w : World) : SetR (w.alloc (.map #[] 0)) w.heap.size [] := ⟨.map [], World.ownsMap_made _ _ _ _, DataR.empty⟩
theorem SetR.kept (h : SetR w b r) {row : Option Nat} (hg : w.grownBy w1 row) (hne : some b ≠ row) : SetR w1 b r := by
 obtain ⟨D, h1, h2⟩ := h
 exact ⟨D, h1.kept hg hne, h2⟩
theorem SetR.lt (h : SetR w b r) : b < w.heap.size := by obtain ⟨D, h1, h2⟩ := h; exact h1.lt
theorem SetR.below (h : SetR w b r) (hb : Below w.heap.size w w1) : SetR w1 b r := h.kept (grown_of_below hb none) (by simp)
theorem SetR.alloc (h : SetR w b r) (o : Obj) : SetR (w.alloc o) b r := h.below (below_alloc (Below.refl _ _) o)
theorem SetR.up (h : SetR w b r) : Up r := by obtain ⟨D, _, h2⟩ := h; exact h2.up
theorem SetR.wf (h : SetR w b r) : ∀ x ∈ r, ndW x := by obtain ⟨D, _, h2⟩ := h; exact h2.wf
theorem SetR.lookup (h : SetR w b r) {x : Nd} (hx : ndW x) : (Instr.lookup tM (.map (some b)) (ndV x) false).run Tryd.prog w = .ok (.bool (decB (x ∈ r))) w := by
 obtain ⟨D, h1, h2⟩ := h
 obtain ⟨v, ps, hrun, hv⟩ := h1.lookup nd_law Tryd.underlying48 (zeroNb w) (plainElem_bool Tryd.underlying4 false) (nd_key hx)
 rw [hrun]
 by_cases hm : x ∈ r
 ·rw [h2.val _ _ ((h2.has x hx).mpr hm)] at hv
  rw [plain_bool_inv Tryd.underlying4 hv, decB_true hm]
 ·rw [Maps.atKey_of_not_has (by rw [← Bool.not_eq_true, h2.has x hx]; exact hm)] at hv
  rw [plain_bool_inv Tryd.underlying4 hv, decB_false hm]
theorem SetR.len (h : SetR w b r) (ty : TypeId) : (Builtin.len_ #[tM] ty #[.map (some b)]).run Tryd.prog w = .ok (.int .i64 r.length) w := by
 obtain ⟨D, h1, h2⟩ := h
 rw [h1.len Tryd.underlying48 ty, h2.size]
theorem SetR.update_op {ops : Array Oper} {rest : List Oper} {o : Oper} {a : Act} {Q : Exit → Act → World → Prop} (h : SetR w b r)
  (hg : o.guard = none) (m x v : Operand) (hop : o.op = Op.mapUpdate tM m x v)
  (hm : a.eval m = .map (some b)) (hn : r.length < maxLen) (y : Nd) (hx : a.eval x = ndV y) (hv : a.eval v = .bool true) (hy : ndW y)
  (hK : ∀ w', SetR w' b (addR r y) → w.grownBy w' (some b) → wpList Tryd.prog ops Q rest (a.put o.dst undef) w') :
  wpList Tryd.prog ops Q (o :: rest) a w := by
 obtain ⟨D, h1, h2⟩ := h
 refine wpList_mapUpdate_own w hg m x v tM hop 24 4 nd_law Tryd.underlying48 (plainElem Tryd.prog 4) b _ D hm h1 hn (ndV y) _ (nl y) hx hv (nd_key hy) _ [] (plainElem_bool Tryd.underlying4 true) ?_
 intro w' ho hgr
 have h3 := h2.put hy
 have ho2 := owns_tight ho
 rw [h3.size] at ho2
 exact hK w' ⟨_, ho2, h3⟩ hgr
end
/-- A walk over a set: it goes on at block q; these have come. -/
def RunR (w : World) (b q : Nat) (r done : List Nd) : Prop := ∃ D left cnt, w.ranges (H := Unit) Tryd.prog 24 (plainElem Tryd.prog 4) b q r.length D left cnt ∧ DataR D r ∧ (∀ l, left l = true ↔ ∃ x ∈ r, x ∉ done ∧ l = nl x) ∧ (∀ x ∈ done, x ∈ r) ∧ done.Nodup
theorem length_le_of_subset {α : Type} [DecidableEq α] : ∀ {l r : List α}, l.Nodup → (∀ z ∈ l, z ∈ r) → l.length ≤ r.length
 | [], _, _, _ => Nat.zero_le _
 | x :: l, r, hn, hs => by
  obtain ⟨h1, h2⟩ := List.nodup_cons.mp hn
  have hx := hs x (by simp)
  have := length_le_of_subset (l := l) (r := r.erase x) h2 (fun z hz => (List.mem_erase_of_ne (fun (e : z = x) => h1 (by rw [← e]; exact hz))).mpr (hs z (List.mem_cons_of_mem _ hz)))
  rw [List.length_erase_of_mem hx] at this
  have := List.length_pos_of_mem hx
  rw [List.length_cons]; omega
section
variable {w w1 : World} {b q : Nat} {r done : List Nd}
theorem RunR.set (h : RunR w b q r done) : SetR w b r := by
 obtain ⟨D, left, cnt, h1, h2, _⟩ := h
 exact ⟨D, h1.owns, h2⟩
theorem RunR.ne (h : RunR w b q r done) : q ≠ b := by obtain ⟨D, left, cnt, h1, _⟩ := h; exact h1.ne
theorem RunR.lt (h : RunR w b q r done) : q < w.heap.size := by obtain ⟨D, left, cnt, h1, _⟩ := h; exact h1.lt
theorem RunR.kept (h : RunR w b q r done) {row : Option Nat} (hg : w.grownBy w1 row) (hb : some b ≠ row) (hq : some q ≠ row) : RunR w1 b q r done := by
 obtain ⟨D, left, cnt, h1, h2⟩ := h
 exact ⟨D, left, cnt, h1.kept hg hb hq, h2⟩
theorem RunR.below (h : RunR w b q r done) (hb : Below w.heap.size w w1) : RunR w1 b q r done := h.kept (grown_of_below hb none) (by simp) (by simp)
theorem RunR.start_op {ops : Array Oper} {rest : List Oper} {o : Oper} {a : Act} {Q : Exit → Act → World → Prop} (h : SetR w b r) (hg : o.guard = none) (m : Operand) (hop : o.op = Op.range tM m) (hm : a.eval m = .map (some b))
  (hK : ∀ w', RunR w' b w.heap.size r [] → Below w.heap.size w w' → wpList Tryd.prog ops Q rest (a.put o.dst (.pointer (some ⟨w.heap.size, 0, none⟩))) w') : wpList Tryd.prog ops Q (o :: rest) a w := by
 obtain ⟨D, h1, h2⟩ := h
 refine wpList_range_own w hg m tM hop 24 4 nd_law Tryd.underlying48 (plainElem Tryd.prog 4) b _ D hm h1 ?_
 intro w' hr hgr _
 refine hK w' ⟨D, _, _, hr, h2, fun l => ?_, fun x hx => (nomatch hx), List.nodup_nil⟩ ((Below.refl w.heap.size w).grown hgr (Nat.le_refl _) (fun k hk => (nomatch hk)))
 constructor
 ·intro hl
  obtain ⟨x, hx, e⟩ := h2.keys l hl
  exact ⟨x, hx, by simp, e⟩
 ·rintro ⟨x, hx, _, rfl⟩
  exact (h2.has x (h2.wf x hx)).mpr hx
theorem RunR.next_op {ops : Array Oper} {rest : List Oper} {o : Oper} {a : Act} {Q : Exit → Act → World → Prop} (h : RunR w b q r done) (hg : o.guard = none) (it : Operand) (hop : o.op = Op.next it false) (hit : a.eval it = .pointer (some ⟨q, 0, none⟩))
  (hDone : done.Perm r → wpList Tryd.prog ops Q rest (a.put o.dst (.tuple #[.bool false])) w)
  (hMore : ∀ (x : Nd) (w' : World), x ∈ r → x ∉ done → done.length < r.length → RunR w' b q r (done ++ [x]) → w.grownBy w' (some q) → w'.heap.size = w.heap.size → w'.rangeLeft b q < w.rangeLeft b q → (Instr.entry (.pointer (some ⟨q, 0, none⟩))).run Tryd.prog w' = .ok (.tuple #[ndV x, .bool true]) w' → wpList Tryd.prog ops Q rest (a.put o.dst (.tuple #[.bool true, ndV x, .bool true])) w') :
  wpList Tryd.prog ops Q (o :: rest) a w := by
 obtain ⟨D, left, cnt, h1, h2, h3, h4, h5⟩ := h
 refine wpList_next_ranges w hg it hop 24 nd_law (plainElem Tryd.prog 4) id id (fun key _ _ => ⟨key, rfl⟩) (fun v _ _ => ⟨v, rfl⟩) b q _ D left cnt hit h1 ?_ ?_
 ·intro _ hl
  refine hDone ?_
  refine (List.perm_ext_iff_of_nodup h5 h2.up.nodup).mpr (fun x => ⟨h4 x, fun hx => ?_⟩)
  exact Classical.byContradiction (fun hn => by
   have := (h3 (nl x)).mpr ⟨x, hx, hn, rfl⟩
   rw [hl] at this; cases this)
 ·intro key val kl y w' cnt' hkey hlk hv hat hr hlt hgr hsz hen
  obtain ⟨x, hx, hn, rfl⟩ := (h3 kl).mp hlk
  have hk : key = ndV x := nd_law.inj hkey (nd_key (h2.wf x hx))
  have hvy := hat (.lit (.bool false))
  rw [h2.val _ _ ((h2.has x (h2.wf x hx)).mpr hx)] at hvy
  have hval : val = .bool true := by
   refine plain_bool_inv (ps := y.2) Tryd.underlying4 ?_
   have : y = (DataW.lit (Lit.bool true), y.2) := by rw [hvy]
   rw [← this]; exact hv
  subst hk hval
  have hlen : done.length < r.length := by
   have hsub : (done ++ [x]).Nodup := List.nodup_append.mpr ⟨h5, by simp, fun a ha c hc e => hn (by rw [List.mem_singleton] at hc; rw [← hc, ← e]; exact ha)⟩
   have h6 := (@length_le_of_subset Nd (Classical.typeDecidableEq _) _ _ hsub (fun z hz => by
    rcases List.mem_append.mp hz with hz | hz
    ·exact h4 z hz
    ·rw [List.mem_singleton.mp hz]; exact hx))
   rw [List.length_append, List.length_singleton] at h6
   omega
  refine hMore x w' hx hn hlen ⟨D, _, cnt', hr, h2, fun l => ?_, fun z hz => ?_, ?_⟩ hgr hsz (by rw [hr.left_eq, h1.left_eq]; exact hlt) hen
  ·rw [Bool.and_eq_true, h3]
   constructor
   ·rintro ⟨⟨z, hz, hzn, rfl⟩, hne⟩
    refine ⟨z, hz, fun hm => ?_, rfl⟩
    rcases List.mem_append.mp hm with hm | hm
    ·exact hzn hm
    ·rw [List.mem_singleton.mp hm, WideAt.sameKey_self (nl_lit x)] at hne
     cases hne
   ·rintro ⟨z, hz, hzn, rfl⟩
    refine ⟨⟨z, hz, fun hm => hzn (List.mem_append_left _ hm), rfl⟩, ?_⟩
    rw [Maps.sameKey_ne (fun e => hzn (List.mem_append_right _ (by rw [nl_inj (h2.wf z hz) (h2.wf x hx) e]; simp)))]
    rfl
  ·rcases List.mem_append.mp hz with hz | hz
   ·exact h4 z hz
   ·rw [List.mem_singleton.mp hz]; exact hx
  ·exact List.nodup_append.mpr ⟨h5, by simp, fun a ha c hc e => hn (by rw [List.mem_singleton] at hc; rw [← hc, ← e]; exact ha)⟩
end
end Go.Proofs.YtgidnkmlnccaiaaDoor.Q
/- Set.Has, Set.Len, Of: by hand. -/
namespace Go.Proofs.YtgidnkmlnccaiaaDoor.Q
open Go.RowKit Go.Proofs.YtgidnkmlnccaiaaDoorW.PrintWords Go.Proofs.YtgidnkmlnccaiaaDoorW.PrintLast Go.Proofs.YtgidnkmlnccaiaaDoorW.PrintMore
set_option linter.unusedVariables false
set_option linter.unusedSimpArgs false
/-- A set's map: nil, or a block. -/
def SetO (w : World) (m : Option Nat) (r : List Nd) : Prop := match m with | none => r = [] | some b => SetR w b r
section
variable {w w1 : World} {m : Option Nat} {r : List Nd}
theorem SetO.below (h : SetO w m r) (hb : Below w.heap.size w w1) : SetO w1 m r := by
 cases m with
 | none => exact h
 | some b => exact SetR.below h hb
theorem SetO.alloc (h : SetO w m r) (o : Obj) : SetO (w.alloc o) m r := h.below (below_alloc (Below.refl _ _) o)
theorem SetO.up (h : SetO w m r) : Up r := by
 cases m with
 | none => cases (show r = [] from h); exact List.Pairwise.nil
 | some b => exact SetR.up h
theorem SetO.wf (h : SetO w m r) : ∀ x ∈ r, ndW x := by
 cases m with
 | none => cases (show r = [] from h); exact fun x hx => (nomatch hx)
 | some b => exact SetR.wf h
theorem SetO.lookup (h : SetO w m r) {x : Nd} (hx : ndW x) : (Instr.lookup tM (.map m) (ndV x) false).run Tryd.prog w = .ok (.bool (decB (x ∈ r))) w := by
 cases m with
 | none =>
  cases (show r = [] from h)
  rw [Maps.look_nil false nd_law Tryd.underlying48 (zeroNb w) (nd_key hx), decB_false (by simp)]
  rfl
 | some b => exact SetR.lookup h hx
theorem SetO.len (h : SetO w m r) (ty : TypeId) : (Builtin.len_ #[tM] ty #[.map m]).run Tryd.prog w = .ok (.int .i64 r.length) w := by
 cases m with
 | none =>
  cases (show r = [] from h)
  exact Maps.len_nil Tryd.underlying48 ty
 | some b => exact SetR.len h ty
end
set_option maxRecDepth 100000 in
set_option maxHeartbeats 4000000 in
theorem set_Has (m : Option Nat) (r : List Nd) (x : Nd) (w : World) (h : SetO w m r) (hx : ndW x) :
  Calls Tryd.prog 25 #[.agg #[.map m], ndV x] w fun e w' => e = .returned (.bool (decB (x ∈ r))) ∧ Below w.heap.size w w' := by
 have HB := Aside0.mk (below_alloc (below_alloc (Below.refl w.heap.size w) (.cells #[.map m] 50)) (.cells #[.int .i64 x.f0, .int .i64 x.f1, .string x.f2] 24))
 have hlk := ((h.alloc (.cells #[.map m] 50)).alloc (.cells #[.int .i64 x.f0, .int .i64 x.f1, .string x.f2] 24)).lookup hx
 clear h
 unfold ndV at hlk ⊢
 go_enter Tryd.func25, Tryd.ntmps25
 go_wp2
 go_ret
 exact ⟨rfl, HB.out⟩
set_option maxRecDepth 100000 in
set_option maxHeartbeats 4000000 in
theorem set_Len (m : Option Nat) (r : List Nd) (w : World) (h : SetO w m r) :
  Calls Tryd.prog 26 #[.agg #[.map m]] w fun e w' => e = .returned (.int .i64 r.length) ∧ Below w.heap.size w w' := by
 have HB := Aside0.mk (below_alloc (Below.refl w.heap.size w) (.cells #[.map m] 50))
 have hln := fun ty => (h.alloc (.cells #[.map m] 50)).len ty
 clear h
 go_enter Tryd.func26, Tryd.ntmps26
 go_wp2
 go_ret
 exact ⟨rfl, HB.out⟩
def ofL (l : List Nd) : List Nd := l.foldl addR []
theorem ofL_snoc (l : List Nd) (x : Nd) : ofL (l ++ [x]) = addR (ofL l) x := by unfold ofL; rw [List.foldl_append]; rfl
theorem addR_le (x : Nd) : ∀ r, (addR r x).length ≤ r.length + 1
 | [] => Nat.le_refl _
 | y :: r => by
  unfold addR
  split
  ·exact Nat.le_succ _
  ·split
   ·exact Nat.le_refl _
   ·rw [List.length_cons, List.length_cons]; have := addR_le x r; omega
theorem foldl_le : ∀ (l r : List Nd), (l.foldl addR r).length ≤ r.length + l.length
 | [], r => Nat.le_refl _
 | x :: l, r => by
  rw [List.foldl_cons, List.length_cons]
  have := foldl_le l (addR r x); have := addR_le x r; omega
theorem ofL_le (l : List Nd) : (ofL l).length ≤ l.length := by have := foldl_le l []; simpa [ofL] using this
theorem take_next {α : Type} (l : List α) (z : α) {i : Nat} (hi : i < l.length) : l.take (i + 1) = l.take i ++ [l.getD i z] := by
 rw [List.take_succ_eq_append_getElem hi, getD_at l z hi]
set_option maxRecDepth 100000 in
set_option maxHeartbeats 8000000 in
theorem node_Of (A0 : Option Addr) (c0 : Nat) (l0 : List Nd) (w : World) (hr0 : Kd.C k24 w A0 l0.length l0) (hc0 : l0.length ≤ c0) (hw : ∀ x ∈ l0, ndW x) (hlen : l0.length ≤ 1000000) :
  Calls Tryd.prog 17 #[.slice A0 l0.length c0] w fun e w' => ∃ b, e = .returned (.agg #[.map (some b)]) ∧ w.heap.size ≤ b ∧ SetR w' b (ofL l0) ∧ Below w.heap.size w w' := by
 have hmm := @run_makeMap Tryd.prog
 have HR := Aside0.mk hr0; have HW := Aside0.mk hw
 have hlx : l0.length ≤ 9223372036854775807 := by omega
 clear hr0 hw
 go_enter Tryd.func17, Tryd.ntmps17
 go_wp2_with fail
 have HM : Aside0 (SetR (((w.alloc (.cells #[.map none] 50)).alloc (.map #[] 0)).alloc (.cells #[.map (some (w.heap.size + 1))] 50)) (w.heap.size + 1) (ofL (l0.take 0))) := ⟨by
  have := (SetR.made (w.alloc (.cells #[.map none] 50))).alloc (.cells #[.map (some (w.heap.size + 1))] 50)
  rw [World.size_alloc] at this
  exact this⟩
 have HB : Aside0 (Below w.heap.size w (((w.alloc (.cells #[.map none] 50)).alloc (.map #[] 0)).alloc (.cells #[.map (some (w.heap.size + 1))] 50))) := ⟨below_alloc (below_alloc (below_alloc (Below.refl _ _) _) _) _⟩
 have HZ : Aside0 ((((w.alloc (.cells #[.map none] 50)).alloc (.map #[] 0)).alloc (.cells #[.map (some (w.heap.size + 1))] 50)).heap[w.heap.size]? = some (.cells #[.map none] 50 (0, 0))) := ⟨blk_alloc (blk_alloc (blk_new _ _) _) _⟩
 have HS : Aside0 ((((w.alloc (.cells #[.map none] 50)).alloc (.map #[] 0)).alloc (.cells #[.map (some (w.heap.size + 1))] 50)).heap[w.heap.size + 1 + 1]? = some (.cells #[.map (some (w.heap.size + 1))] 50 (0, 0))) := ⟨by
  have := blk_new ((w.alloc (.cells #[.map none] 50)).alloc (.map #[] 0)) (.cells #[.map (some (w.heap.size + 1))] 50)
  simpa using this⟩
 generalize (((w.alloc (.cells #[.map none] 50)).alloc (.map #[] 0)).alloc (.cells #[.map (some (w.heap.size + 1))] 50)) = w1 at HM HB HZ HS ⊢
 go_loopw [10] (fun v10 wr => ∃ i : Nat, v10 = .int .i64 i ∧ i ≤ l0.length ∧ Aside0 (SetR wr (w.heap.size + 1) (ofL (l0.take i))) ∧ Aside0 (Below w.heap.size w wr) ∧ Aside0 (wr.heap[w.heap.size]? = some (.cells #[.map none] 50 (0, 0))) ∧ Aside0 (wr.heap[w.heap.size + 1 + 1]? = some (.cells #[.map (some (w.heap.size + 1))] 50 (0, 0)))) (fun v10 _ => l0.length - (intOf v10).toNat)
 case atStart => exact ⟨0, rfl, Nat.zero_le _, HM, HB, HZ, HS⟩
 case round =>
  clear HM HB HZ HS
  obtain ⟨i, rfl, hi, HM, HB, HZ, HS⟩ := hrel
  by_cases hlt : i < l0.length
  ·obtain ⟨ad, e1, hx0, hx1, hx2⟩ := at_T24 (Kd.C_below HR.out HB.out) (i : Int) (by omega) (by omega)
   subst e1
   simp only [Int.toNat_natCast] at hx0 hx1 hx2
   obtain ⟨x, ex⟩ : ∃ x, x = rd_T24 l0 (i : Int) := ⟨_, rfl⟩
   rw [← ex] at hx0 hx1 hx2
   have hexg : l0.take (i + 1) = l0.take i ++ [x] := by
    rw [take_next l0 z24 hlt, ex]; rfl
   have hxw : ndW x := HW.out x (by
    rw [ex]; unfold rd_T24
    rw [Int.toNat_natCast, getD_at _ _ hlt]
    exact List.getElem_mem hlt)
   have hn : (ofL (l0.take i)).length < maxLen := by have := ofL_le (l0.take i); rw [List.length_take] at this; unfold maxLen; omega
   have HXW := Aside0.mk hxw; have HN := Aside0.mk hn; have HEX := Aside0.mk hexg
   have HM1 := Aside0.mk (HM.out.alloc (.cells #[.int .i64 x.f0, .int .i64 x.f1, .string x.f2] 24))
   have HB1 := Aside0.mk (below_alloc HB.out (.cells #[.int .i64 x.f0, .int .i64 x.f1, .string x.f2] 24))
   have HZ1 := Aside0.mk (blk_alloc HZ.out (.cells #[.int .i64 x.f0, .int .i64 x.f1, .string x.f2] 24))
   have HS1 := Aside0.mk (blk_alloc HS.out (.cells #[.int .i64 x.f0, .int .i64 x.f1, .string x.f2] 24))
   have hs0 := blk_cell HS1.out 0
   clear hxw hn hexg ex HM HB HZ HS
   go_wp2_with (at_mapUpdate; refine SetR.update_op HM1.out rfl (.tmp 15) (.tmp 16) (.const (.bool true)) rfl rfl HN.out x rfl rfl HXW.out ?_)
   intro w4 hs4 hg4
   have HM4 : Aside0 (SetR w4 (w.heap.size + 1) (ofL (l0.take (i + 1)))) := ⟨by rw [HEX.out, ofL_snoc]; exact hs4⟩
   have HB4 : Aside0 (Below w.heap.size w w4) := ⟨HB1.out.grown hg4 HB1.out.size (fun j hj => by injection hj with hj; omega)⟩
   have HZ4 := Aside0.mk (blk_grown HZ1.out hg4 (by simp))
   have HS4 := Aside0.mk (blk_grown HS1.out hg4 (by simp))
   clear hs4 hg4 hx0 hx1 hx2 hs0 HM1 HB1 HZ1 HS1
   go_wp2
   go_roundw
   case rel => exact ⟨i + 1, by go_num, by omega, HM4, HB4, HZ4, HS4⟩
   case measure => simp [intOf]; omega
  ·have hie : i = l0.length := by omega
   have HM9 : Aside0 (SetR wr (w.heap.size + 1) (ofL l0)) := ⟨by have h := HM.out; rw [hie, List.take_length] at h; exact h⟩
   clear HM
   have hs0 := bk1 HS.out; have hz0 := bk1 HZ.out
   have HBS := Aside0.mk (HB.out.setCell (p := ⟨w.heap.size, 0, none⟩) (Nat.le_refl _) (.map (some (w.heap.size + 1))))
   have HZ9 := Aside0.mk (blk_put HZ.out 0 (.map (some (w.heap.size + 1))) rfl)
   have HM10 := Aside0.mk (HM9.out.kept (grownBy_setCell' wr w.heap.size (.map (some (w.heap.size + 1)))) (by simp))
   clear HS HM9 HZ
   go_wp2
   generalize wr.setCell ⟨w.heap.size, 0, none⟩ (.map (some (w.heap.size + 1))) = w9 at HBS HZ9 HM10 ⊢
   refine bodyPost_ret (results_cell_row rfl _ _ w.heap.size 50 #[.map (some (w.heap.size + 1))] (0, 0) _ rfl HZ9.out Tryd.underlying50 rfl (by kernel_rfl)) rfl ?_
   exact ⟨_, rfl, by omega, HM10.out, HBS.out⟩
/-- A walk over a set that may be nil. -/
def RunO (w : World) (m : Option Nat) (q : Nat) (r done : List Nd) : Prop := match m with
 | none => r = [] ∧ done = [] ∧ ∃ a s b, w.heap[q]? = some (.mapIter none a s b)
 | some b => RunR w b q r done
def leftO (m : Option Nat) (q : Nat) (w : World) : Nat := match m with | none => 0 | some b => w.rangeLeft b q
theorem run_next_nil {w : World} {q : Nat} {a : Nat} {s : Array Nat} {b : Nat} (h : w.heap[q]? = some (.mapIter none a s b)) (ty : TypeId) :
  (Instr.next (.pointer (some ⟨q, 0, none⟩)) false ty).run Tryd.prog w = .ok (.tuple #[.bool false]) w := by
 simp only [Instr.next, getObj, Sem.run_bind, Sem.run, h, Result.andThen]
 rfl
section
variable {w w1 : World} {m : Option Nat} {q : Nat} {r done : List Nd}
theorem SetO.kept (h : SetO w m r) {row : Option Nat} (hg : w.grownBy w1 row) (hb : ∀ b, m = some b → some b ≠ row) : SetO w1 m r := by
 cases m with
 | none => exact h
 | some b => exact SetR.kept h hg (hb b rfl)
theorem SetO.ne (h : SetO w m r) {q : Nat} (hq : q = w.heap.size) : ∀ b, m = some b → some b ≠ some q := by
 rintro b rfl e
 have := SetR.lt h
 injection e with e; omega
theorem RunO.set (h : RunO w m q r done) : SetO w m r := by
 cases m with
 | none => exact h.1
 | some b => exact RunR.set h
theorem RunO.lt (h : RunO w m q r done) : q < w.heap.size := by
 cases m with
 | none =>
  obtain ⟨_, _, a, s, b, hb⟩ := h
  exact (Array.getElem?_eq_some_iff.mp hb).1
 | some b => exact RunR.lt h
theorem RunO.kept (h : RunO w m q r done) {row : Option Nat} (hg : w.grownBy w1 row) (hb : ∀ b, m = some b → some b ≠ row) (hq : some q ≠ row) : RunO w1 m q r done := by
 have hlt := h.lt
 cases m with
 | none =>
  obtain ⟨h1, h2, a, s, b, hb⟩ := h
  exact ⟨h1, h2, a, s, b, (hg.block q hlt hq).trans hb⟩
 | some b => exact RunR.kept h hg (hb b rfl) hq
theorem RunO.below (h : RunO w m q r done) (hb : Below w.heap.size w w1) : RunO w1 m q r done := h.kept (grown_of_below hb none) (by simp) (by simp)
theorem RunR.left_alloc {b : Nat} (h : RunR w b q r done) (o : Obj) : (w.alloc o).rangeLeft b q = w.rangeLeft b q := by
 unfold World.rangeLeft
 rw [heap_alloc_old w o h.lt, heap_alloc_old w o h.set.lt]
theorem left_alloc (h : RunO w m q r done) (o : Obj) : leftO m q (w.alloc o) = leftO m q w := by
 cases m with
 | none => rfl
 | some b => exact RunR.left_alloc h o
theorem left_kept (h : RunO w m q r done) {row : Option Nat} (hg : w.grownBy w1 row) (hb : ∀ b, m = some b → some b ≠ row) (hq : some q ≠ row) : leftO m q w1 = leftO m q w := by
 cases m with
 | none => rfl
 | some b =>
  show w1.rangeLeft b q = w.rangeLeft b q
  have h1 := hg.block q h.lt hq
  have h2 := hg.block b (SetR.lt h.set) (hb b rfl)
  unfold World.rangeLeft
  rw [h1, h2]
theorem RunO.start_op {ops : Array Oper} {rest : List Oper} {o : Oper} {a : Act} {Q : Exit → Act → World → Prop} (h : SetO w m r) (hg : o.guard = none) (x : Operand) (hop : o.op = Op.range tM x) (hm : a.eval x = .map m)
  (hK : ∀ w', RunO w' m w.heap.size r [] → Below w.heap.size w w' → wpList Tryd.prog ops Q rest (a.put o.dst (.pointer (some ⟨w.heap.size, 0, none⟩))) w') : wpList Tryd.prog ops Q (o :: rest) a w := by
 cases m with
 | none =>
  cases (show r = [] from h)
  refine wpList_plain hg fun K' hK' => ?_
  unfold Oper.wp
  simp [execOp, hop, hm, run_range_nilMap w tM _ _ Tryd.underlying48, Result.andThen]
  exact hK' _ _ (hK _ ⟨rfl, rfl, 0, #[], 0, heap_alloc_new _ _⟩ (below_alloc (Below.refl _ _) _))
 | some b => exact RunR.start_op h hg x hop hm hK
theorem RunO.next_op {ops : Array Oper} {rest : List Oper} {o : Oper} {a : Act} {Q : Exit → Act → World → Prop} (h : RunO w m q r done) (hg : o.guard = none) (it : Operand) (hop : o.op = Op.next it false) (hit : a.eval it = .pointer (some ⟨q, 0, none⟩))
  (hDone : done.Perm r → wpList Tryd.prog ops Q rest (a.put o.dst (.tuple #[.bool false])) w)
  (hMore : ∀ (x : Nd) (w' : World), x ∈ r → x ∉ done → done.length < r.length → RunO w' m q r (done ++ [x]) → w.grownBy w' (some q) → w'.heap.size = w.heap.size → leftO m q w' < leftO m q w → (Instr.entry (.pointer (some ⟨q, 0, none⟩))).run Tryd.prog w' = .ok (.tuple #[ndV x, .bool true]) w' → wpList Tryd.prog ops Q rest (a.put o.dst (.tuple #[.bool true, ndV x, .bool true])) w') :
  wpList Tryd.prog ops Q (o :: rest) a w := by
 cases m with
 | none =>
  obtain ⟨rfl, rfl, a1, s1, b1, hb⟩ := h
  refine wpList_plain hg fun K' hK' => ?_
  unfold Oper.wp
  simp [execOp, hop, hit, run_next_nil hb, Result.andThen]
  exact hK' _ _ (hDone (List.Perm.refl _))
 | some b => exact RunR.next_op h hg it hop hit hDone hMore
end
set_option maxRecDepth 100000 in
set_option maxHeartbeats 8000000 in
theorem set_Within (m n : Option Nat) (r s : List Nd) (w : World) (h : SetO w m r) (h2 : SetO w n s) :
  Calls Tryd.prog 23 #[.agg #[.map m], .agg #[.map n]] w fun e w' => e = .returned (.bool (decB (∀ x ∈ r, x ∈ s))) ∧ Below w.heap.size w w' := by
 have HB := Aside0.mk (below_alloc (below_alloc (Below.refl w.heap.size w) (.cells #[.map m] 50)) (.cells #[.map n] 50))
 have HM := Aside0.mk ((h.alloc (.cells #[.map m] 50)).alloc (.cells #[.map n] 50))
 have HN := Aside0.mk ((h2.alloc (.cells #[.map m] 50)).alloc (.cells #[.map n] 50))
 have HQ := Aside0.mk (HB.out.size)
 clear h h2
 go_enter Tryd.func23, Tryd.ntmps23
 go_wp2_with (at_range; refine RunO.start_op HM.out rfl (.tmp 7) rfl rfl ?_)
 intro w1 hr hb0
 have hb : Below ((w.alloc (.cells #[.map m] 50)).alloc (.cells #[.map n] 50)).heap.size ((w.alloc (.cells #[.map m] 50)).alloc (.cells #[.map n] 50)) w1 := by rw [World.size_alloc, World.size_alloc]; exact hb0
 have HR := Aside0.mk hr
 have HT : Aside0 (w1.heap[w.heap.size + 1]? = some (.cells #[.map n] 50 (0, 0))) := ⟨by
  have := blk_new (w.alloc (.cells #[.map m] 50)) (.cells #[.map n] 50)
  have := blk_below this hb
  rw [World.size_alloc] at this
  exact this⟩
 have HN1 := Aside0.mk (HN.out.below hb)
 have HNE := Aside0.mk (HN.out.ne (q := w.heap.size + 1 + 1) (by rw [World.size_alloc, World.size_alloc]))
 have HB1 := Aside0.mk (below_step HB.out hb)
 have HQ1 := Aside0.mk (show w.heap.size ≤ w.heap.size + 1 + 1 by omega)
 have HQ2 := Aside0.mk (show w.heap.size + 1 ≠ w.heap.size + 1 + 1 by omega)
 clear hr hb hb0 HN HB HM HQ
 generalize w.heap.size + 1 + 1 = q at HR HQ1 HQ2 HNE ⊢
 go_wp2_with fail
 go_loopw [9] (fun _ wr => ∃ done : List Nd, Aside0 (RunO wr m q r done) ∧ Aside0 (SetO wr n s) ∧ Aside0 (Below w.heap.size w wr) ∧ Aside0 (wr.heap[w.heap.size + 1]? = some (.cells #[.map n] 50 (0, 0))) ∧ Aside0 (∀ x ∈ done, x ∈ s)) (fun _ wr => leftO m q wr)
 case atStart => exact ⟨[], HR, HN1, HB1, HT, ⟨fun x hx => (nomatch hx)⟩⟩
 case round =>
  clear HR HN1 HB1 HT
  obtain ⟨done, HR, HN, HB, HT, HD⟩ := hrel
  go_wp2_with (at_next; refine RunO.next_op HR.out rfl (.tmp 8) rfl rfl ?_ ?_)
  ·intro hperm
   have hd : decB (∀ x ∈ r, x ∈ s) = true := decB_true (fun x hx => HD.out x (hperm.mem_iff.mpr hx))
   clear hperm
   go_wp2
   go_ret
   exact ⟨by rw [hd]; rfl, HB.out⟩
  ·intro x w2 hx hn hl hr2 hg hsz hlt hen
   have hxw : ndW x := HR.out.set.wf x hx
   have HN2 := (HN.out.kept hg HNE.out).alloc (.cells #[.int .i64 x.f0, .int .i64 x.f1, .string x.f2] 24)
   have HR2 := Aside0.mk (hr2.below (below_alloc (Below.refl _ _) (.cells #[.int .i64 x.f0, .int .i64 x.f1, .string x.f2] 24)))
   have HB2 := Aside0.mk (below_alloc (HB.out.grown hg HB.out.size (fun j hj => by injection hj with hj; have := HQ1.out; omega)) (.cells #[.int .i64 x.f0, .int .i64 x.f1, .string x.f2] 24))
   have HT2 := Aside0.mk (blk_alloc (blk_grown HT.out hg (by have := HQ2.out; simpa using this)) (.cells #[.int .i64 x.f0, .int .i64 x.f1, .string x.f2] 24))
   have HLT : Aside0 (leftO m q (w2.alloc (.cells #[.int .i64 x.f0, .int .i64 x.f1, .string x.f2] 24)) < leftO m q wr) := ⟨by
    have e : leftO m q (w2.alloc (.cells #[.int .i64 x.f0, .int .i64 x.f1, .string x.f2] 24)) = leftO m q w2 := left_alloc hr2 _
    rw [e]; exact hlt⟩
   have HX := Aside0.mk hx; have HSZ := Aside0.mk hsz
   have ht := bk1 HT2.out
   have hlk := HN2.lookup hxw
   unfold ndV at hen hlk ⊢
   have HN3 := Aside0.mk HN2
   clear hr2 hlt hx hn hl hsz hg HN HR HB HT hxw HN2
   by_cases hxs : x ∈ s
   ·rw [decB_true hxs] at hlk
    have HXS := Aside0.mk hxs
    clear hxs
    go_wp2
    go_roundw
    case rel => exact ⟨done ++ [x], HR2, HN3, HB2, HT2, ⟨fun z hz => by
     rcases List.mem_append.mp hz with hz | hz
     ·exact HD.out z hz
     ·rw [List.mem_singleton.mp hz]; exact HXS.out⟩⟩
    case measure => exact HLT.out
   ·rw [decB_false hxs] at hlk
    have hd : decB (∀ x ∈ r, x ∈ s) = false := decB_false (fun h => hxs (h x HX.out))
    clear hxs
    go_wp2
    go_ret
    exact ⟨by rw [hd]; rfl, HB2.out⟩
/-- Those of a type. -/
def typedL (typ : ByteArray) (r : List Nd) : List Nd := r.filter (fun x => decide (x.f2 = typ))
theorem ofL_mem (z : Nd) (l : List Nd) : z ∈ ofL l ↔ z ∈ l := by
 have : ∀ (l r : List Nd), z ∈ l.foldl addR r ↔ z ∈ r ∨ z ∈ l := by
  intro l
  induction l with
  | nil => intro r; simp
  | cons x l ih =>
   intro r
   rw [List.foldl_cons, ih, addR_mem, List.mem_cons]
   exact or_assoc
 unfold ofL
 rw [this]; simp
theorem ofL_up (l : List Nd) : Up (ofL l) := by
 have : ∀ (l r : List Nd), Up r → Up (l.foldl addR r) := by
  intro l
  induction l with
  | nil => intro r h; exact h
  | cons x l ih => intro r h; exact ih _ (addR_up h)
 exact this l [] List.Pairwise.nil
theorem ofL_eq {l r : List Nd} (hr : Up r) (h : ∀ x, x ∈ l ↔ x ∈ r) : ofL l = r := up_ext (ofL_up l) hr (fun x => (ofL_mem x l).trans (h x))
theorem typedL_snoc (typ : ByteArray) (l : List Nd) (x : Nd) : typedL typ (l ++ [x]) = if x.f2 = typ then typedL typ l ++ [x] else typedL typ l := by
 unfold typedL
 rw [List.filter_append]
 by_cases h : x.f2 = typ
 ·rw [if_pos h]; simp [h]
 ·rw [if_neg h]; simp [h]
set_option maxRecDepth 100000 in
set_option maxHeartbeats 8000000 in
theorem set_Typed (m : Option Nat) (r : List Nd) (typ : ByteArray) (w : World) (h : SetO w m r) (hlen : r.length ≤ 1000000) :
  Calls Tryd.prog 24 #[.agg #[.map m], .string typ] w fun e w' => ∃ b, e = .returned (.agg #[.map (some b)]) ∧ w.heap.size ≤ b ∧ SetR w' b (typedL typ r) ∧ Below w.heap.size w w' := by
 have HB := Aside0.mk (below_alloc (below_alloc (Below.refl w.heap.size w) (.cells #[.map m] 50)) (.cells #[.map none] 50))
 have HM := Aside0.mk ((h.alloc (.cells #[.map m] 50)).alloc (.cells #[.map none] 50))
 have HT : Aside0 (((w.alloc (.cells #[.map m] 50)).alloc (.cells #[.map none] 50)).heap[w.heap.size]? = some (.cells #[.map m] 50 (0, 0))) := ⟨blk_alloc (blk_new _ _) _⟩
 have HZ : Aside0 (((w.alloc (.cells #[.map m] 50)).alloc (.cells #[.map none] 50)).heap[w.heap.size + 1]? = some (.cells #[.map none] 50 (0, 0))) := ⟨by
  have := blk_new (w.alloc (.cells #[.map m] 50)) (.cells #[.map none] 50)
  rw [World.size_alloc] at this
  exact this⟩
 have HSZ : Aside0 (((w.alloc (.cells #[.map m] 50)).alloc (.cells #[.map none] 50)).heap.size = w.heap.size + 1 + 1) := ⟨by rw [World.size_alloc, World.size_alloc]⟩
 clear h
 go_enter Tryd.func24, Tryd.ntmps24
 go_wp2_with fail
 generalize ((w.alloc (.cells #[.map m] 50)).alloc (.cells #[.map none] 50)) = w1 at HB HM HT HZ HSZ ⊢
 refine (node_Of none 0 [] w1 (Kd.C_nil _ _) (Nat.le_refl _) (fun x hx => (nomatch hx)) (Nat.zero_le _)).mono ?_
 rintro e w2 ⟨b, rfl, hb1, hs, hb2⟩
 have HS : Aside0 (SetR (w2.alloc (.cells #[.map (some b)] 50)) b []) := ⟨hs.alloc _⟩
 have hbl : Below w1.heap.size w1 (w2.alloc (.cells #[.map (some b)] 50)) := below_alloc hb2 _
 have HB2 := Aside0.mk (below_step HB.out hbl)
 have HM2 := Aside0.mk (HM.out.below hbl)
 have HT2 := Aside0.mk (blk_below HT.out hbl)
 have HZ2 := Aside0.mk (blk_below HZ.out hbl)
 have HS2 : Aside0 ((w2.alloc (.cells #[.map (some b)] 50)).heap[w2.heap.size]? = some (.cells #[.map (some b)] 50 (0, 0))) := ⟨blk_new _ _⟩
 have HMB : Aside0 (∀ b', m = some b' → some b' ≠ some b) := ⟨by
  rintro b' rfl e
  have := SetR.lt (show SetR w1 b' r from HM.out)
  injection e with e; omega⟩
 have HBL : Aside0 (b < w2.heap.size) := ⟨hs.lt⟩
 have HBG : Aside0 (w.heap.size + 1 + 1 ≤ b) := ⟨by rw [← HSZ.out]; exact hb1⟩
 clear hb1 hs hb2 hbl HB HM HT HZ HSZ
 go_upto_region 2 with (fail)
 generalize w2.alloc (.cells #[.map (some b)] 50) = w3 at HS HB2 HM2 HT2 HZ2 HS2 ⊢
 generalize w2.heap.size = gs at HS2 HBL ⊢
 have HGS : Aside0 (gs < w3.heap.size) := ⟨blk_lt HS2.out⟩
 have ht := bk1 HT2.out
 go_wp2_with (at_range; refine RunO.start_op HM2.out rfl (.tmp 9) rfl rfl ?_)
 clear ht
 intro w4 hr hb
 have HS4 := Aside0.mk (HS.out.below hb)
 have HB4 := Aside0.mk (below_step HB2.out hb)
 have HZ4 := Aside0.mk (blk_below HZ2.out hb)
 have HG4 := Aside0.mk (blk_below HS2.out hb)
 have HR4 := Aside0.mk hr
 clear hb hr HS HB2 HM2 HT2 HZ2 HS2
 generalize w3.heap.size = q at HGS HR4 ⊢
 go_wp2_with fail
 have HQB : Aside0 (b < q) := ⟨by have := HGS.out; have := HBL.out; omega⟩
 go_loopw [11] (fun _ wr => ∃ done : List Nd, Aside0 (RunO wr m q r done) ∧ Aside0 (SetR wr b (ofL (typedL typ done))) ∧ Aside0 (Below w.heap.size w wr) ∧ Aside0 (wr.heap[w.heap.size + 1]? = some (.cells #[.map none] 50 (0, 0))) ∧ Aside0 (wr.heap[gs]? = some (.cells #[.map (some b)] 50 (0, 0))) ∧ Aside0 (done.length ≤ r.length)) (fun _ wr => leftO m q wr)
 case atStart => exact ⟨[], HR4, HS4, HB4, HZ4, HG4, ⟨Nat.zero_le _⟩⟩
 case round =>
  clear HR4 HS4 HB4 HZ4 HG4
  obtain ⟨done, HR, HS, HB, HZ, HG, HD⟩ := hrel
  go_wp2_with (at_next; refine RunO.next_op HR.out rfl (.tmp 10) rfl rfl ?_ ?_)
  ·intro hperm
   have hof : ofL (typedL typ done) = typedL typ r := ofL_eq (HR.out.set.up.filter _) (fun x => (hperm.filter _).mem_iff)
   have HS1 : Aside0 (SetR wr b (typedL typ r)) := ⟨by rw [← hof]; exact HS.out⟩
   clear hperm hof HS
   have hs0 := bk1 HG.out; have hz0 := bk1 HZ.out
   have HBS := Aside0.mk (HB.out.setCell (p := ⟨w.heap.size + 1, 0, none⟩) (Nat.le_succ _) (.map (some b)))
   have HZ9 := Aside0.mk (blk_put HZ.out 0 (.map (some b)) rfl)
   have HM10 := Aside0.mk (HS1.out.kept (grownBy_setCell' wr (w.heap.size + 1) (.map (some b))) (by have := HBG.out; simp; omega))
   clear HS1 HZ
   go_wp2
   generalize wr.setCell ⟨w.heap.size + 1, 0, none⟩ (.map (some b)) = w9 at HBS HZ9 HM10 ⊢
   refine bodyPost_ret (results_cell_row rfl _ _ (w.heap.size + 1) 50 #[.map (some b)] (0, 0) _ rfl HZ9.out Tryd.underlying50 rfl (by kernel_rfl)) rfl ?_
   exact ⟨_, rfl, by have := HBG.out; omega, HM10.out, HBS.out⟩
  ·intro x w5 hx hn hl hr2 hg hsz hlt hen
   have hxw : ndW x := HR.out.set.wf x hx
   have HN2 : Aside0 (SetR (w5.alloc (.cells #[.int .i64 x.f0, .int .i64 x.f1, .string x.f2] 24)) b (ofL (typedL typ done))) := ⟨(HS.out.kept hg (by have := HQB.out; simp; omega)).alloc _⟩
   have HR2 := Aside0.mk (hr2.below (below_alloc (Below.refl _ _) (.cells #[.int .i64 x.f0, .int .i64 x.f1, .string x.f2] 24)))
   have HGW : Aside0 (w.heap.size ≤ q) := ⟨by have := HQB.out; have := HBG.out; omega⟩
   have HB2 := Aside0.mk (below_alloc (HB.out.grown hg HB.out.size (fun j hj => by injection hj with hj; have := HGW.out; omega)) (.cells #[.int .i64 x.f0, .int .i64 x.f1, .string x.f2] 24))
   have HZ2 := Aside0.mk (blk_alloc (blk_grown HZ.out hg (by have := HQB.out; have := HBG.out; simp; omega)) (.cells #[.int .i64 x.f0, .int .i64 x.f1, .string x.f2] 24))
   have HG2 := Aside0.mk (blk_alloc (blk_grown HG.out hg (by have := HGS.out; simp; omega)) (.cells #[.int .i64 x.f0, .int .i64 x.f1, .string x.f2] 24))
   have HLT : Aside0 (leftO m q (w5.alloc (.cells #[.int .i64 x.f0, .int .i64 x.f1, .string x.f2] 24)) < leftO m q wr) := ⟨by
    rw [left_alloc hr2 _]; exact hlt⟩
   have HX := Aside0.mk hx; have HSZ := Aside0.mk hsz; have HXW := Aside0.mk hxw
   have HLN : Aside0 ((done ++ [x]).length ≤ r.length) := ⟨by rw [List.length_append, List.length_singleton]; omega⟩
   have ht := bk1 HG2.out
   unfold ndV at hen ⊢
   clear hr2 hlt hx hn hl hsz hg HR HB HS HZ HG hxw
   by_cases hxs : x.f2 = typ
   ·have hc : (x.f2.toList == typ.toList) = true := by rw [hxs]; exact beq_self_eq_true _
    have HXS := Aside0.mk hxs
    clear hxs
    have HN : Aside0 ((ofL (typedL typ done)).length < maxLen) := ⟨by
     have h1 := ofL_le (typedL typ done)
     have h2 : (typedL typ done).length ≤ done.length := List.length_filter_le _ _
     have := HD.out
     unfold maxLen; omega⟩
    go_wp2_with (at_mapUpdate; refine SetR.update_op HN2.out rfl (.tmp 20) (.tmp 21) (.const (.bool true)) rfl rfl HN.out x rfl rfl HXW.out ?_)
    intro w6 hs6 hg6
    have HT3 : Aside0 (SetR w6 b (ofL (typedL typ (done ++ [x])))) := ⟨by rw [typedL_snoc, if_pos HXS.out, ofL_snoc]; exact hs6⟩
    have HLT6 : Aside0 (leftO m q w6 < leftO m q wr) := ⟨by
     rw [left_kept HR2.out hg6 HMB.out (by have := HQB.out; simp; omega)]; exact HLT.out⟩
    have HR6 := Aside0.mk (HR2.out.kept hg6 HMB.out (by have := HQB.out; simp; omega))
    have HB6 := Aside0.mk (HB2.out.grown hg6 HB2.out.size (fun j hj => by injection hj with hj; have := HBG.out; omega))
    have HZ6 := Aside0.mk (blk_grown HZ2.out hg6 (by have := HBG.out; simp; omega))
    have HG6 := Aside0.mk (blk_grown HG2.out hg6 (by have := HBL.out; simp; omega))
    clear hs6 hg6 HN2 HR2 HB2 HZ2 HG2 HLT ht hc
    go_wp2
    go_roundw
    case rel => exact ⟨done ++ [x], HR6, HT3, HB6, HZ6, HG6, HLN⟩
    case measure => exact HLT6.out
   ·have hc : (x.f2.toList == typ.toList) = false := beq_eq_false_iff_ne.mpr (fun e => hxs (bytes_eq e))
    have HT3 : Aside0 (SetR (w5.alloc (.cells #[.int .i64 x.f0, .int .i64 x.f1, .string x.f2] 24)) b (ofL (typedL typ (done ++ [x])))) := ⟨by rw [typedL_snoc, if_neg hxs]; exact HN2.out⟩
    clear hxs HN2
    go_wp2
    go_roundw
    case rel => exact ⟨done ++ [x], HR2, HT3, HB2, HZ2, HG2, HLN⟩
    case measure => exact HLT.out
end Go.Proofs.YtgidnkmlnccaiaaDoor.Q
/- maps.Keys of a set, slices.AppendSeq, Collect (after the kit's GgCollectAtTheDump, elements being nodes): by hand. -/
namespace Go.Proofs.YtgidnkmlnccaiaaDoor.Q
open Go.RowKit Go.Proofs.YtgidnkmlnccaiaaDoorW.PrintWords Go.Proofs.YtgidnkmlnccaiaaDoorW.PrintLast Go.Proofs.YtgidnkmlnccaiaaDoorW.PrintMore
set_option linter.unusedVariables false
set_option linter.unusedSimpArgs false
open Go.Maps Go.Sort Go.Shelf
section
variable {F : Fence} {n : Nat} {w w1 : World} {m : Option Nat} {q : Nat} {r done : List Nd} {ops : Array Oper} {rest : List Oper} {o : Oper} {a : Act} {Q : Exit → Act → World → Prop}
theorem RunO.walks (h : RunO w m q r done) (hk : KeepsWalks w w1) : RunO w1 m q r done := by
 cases m with
 | none =>
  obtain ⟨h1, h2, a, s, b, hb⟩ := h
  exact ⟨h1, h2, a, s, b, hk.same q _ hb rfl⟩
 | some b =>
  obtain ⟨D, left, cnt, h1, h2⟩ := h
  exact ⟨D, left, cnt, h1.of_walks hk, h2⟩
theorem RunO.left_walks (h : RunO w m q r done) (hk : KeepsWalks w w1) : leftO m q w1 = leftO m q w := by
 cases m with
 | none => rfl
 | some b =>
  obtain ⟨D, left, cnt, h1, h2⟩ := h
  show w1.rangeLeft b q = w.rangeLeft b q
  rw [(h1.of_walks hk).left_eq, h1.left_eq]
theorem RunO.iter_walk (h : RunO w m q r done) : ∃ o : Obj, w.heap[q]? = some o ∧ o.isWalk = true := by
 cases m with
 | none =>
  obtain ⟨h1, h2, a, s, b, hb⟩ := h
  exact ⟨_, hb, rfl⟩
 | some b =>
  obtain ⟨D, left, cnt, h1, h2⟩ := h
  exact h1.iter_walk
theorem RunO.start_in (h : SetO w m r) (hg : o.guard = none) (x : Operand) (hop : o.op = Op.range tM x) (hm : a.eval x = .map m)
  (hK : ∀ w', RunO w' m w.heap.size r [] → w.grownBy w' none → wpListIn F n Tryd.prog ops Q rest (a.put o.dst (.pointer (some ⟨w.heap.size, 0, none⟩))) w') : wpListIn F n Tryd.prog ops Q (o :: rest) a w := by
 cases m with
 | none =>
  cases (show r = [] from h)
  refine wpListIn_plain hg fun K' hK' => ?_
  unfold Oper.wpIn
  refine ⟨by simp [Oper.about, hop], ?_⟩
  rw [Oper.semAt_plain F _ _ (by rw [hop]; intro c hc'; cases hc')]
  simp [execOp, hop, hm, run_range_nilMap w tM _ _ Tryd.underlying48, Result.andThen]
  exact hK' _ _ (hK _ ⟨rfl, rfl, 0, #[], 0, heap_alloc_new _ _⟩ (World.grownBy_alloc w _ none))
 | some b =>
  obtain ⟨D, h1, h2⟩ := (show SetR w b r from h)
  refine wpListIn_range_own w hg x tM hop 24 4 nd_law Tryd.underlying48 (plainElem Tryd.prog 4) b _ D hm h1 ?_
  intro w' hr hgr _
  refine hK w' ⟨D, _, _, hr, h2, fun l => ?_, fun x hx => (nomatch hx), List.nodup_nil⟩ hgr
  constructor
  ·intro hl
   obtain ⟨x, hx, e⟩ := h2.keys l hl
   exact ⟨x, hx, by simp, e⟩
  ·rintro ⟨x, hx, _, rfl⟩
   exact (h2.has x (h2.wf x hx)).mpr hx
/-- The step of a walk: as Oper.wp's, inside a fence. -/
theorem next_in_of (hg : o.guard = none) (it : Operand) (hop : o.op = Op.next it false) (hit : a.eval it = .pointer (some ⟨q, 0, none⟩))
  {v : Value} {w' : World} (hrun : (Instr.next (.pointer (some ⟨q, 0, none⟩)) false o.type).run Tryd.prog w = .ok v w') (hK : wpListIn F n Tryd.prog ops Q rest (a.put o.dst v) w') : wpListIn F n Tryd.prog ops Q (o :: rest) a w := by
 refine wpListIn_plain hg fun K' hK' => ?_
 unfold Oper.wpIn
 refine ⟨by simp [Oper.about, hop], ?_⟩
 rw [Oper.semAt_plain F _ _ (by rw [hop]; intro c hc'; cases hc')]
 simp [execOp, hop, hit, hrun, Result.andThen]
 exact hK' _ _ hK
/-- What the step does. -/
theorem RunO.next_run (h : RunO w m q r done) (ty : TypeId) :
  (done.Perm r ∧ (Instr.next (.pointer (some ⟨q, 0, none⟩)) false ty).run Tryd.prog w = .ok (.tuple #[.bool false]) w) ∨
  ∃ (x : Nd) (w' : World), x ∈ r ∧ done.length < r.length ∧ RunO w' m q r (done ++ [x]) ∧ w.grownBy w' (some q) ∧ leftO m q w' < leftO m q w ∧ (Instr.entry (.pointer (some ⟨q, 0, none⟩))).run Tryd.prog w' = .ok (.tuple #[ndV x, .bool true]) w' ∧
   (Instr.next (.pointer (some ⟨q, 0, none⟩)) false ty).run Tryd.prog w = .ok (.tuple #[.bool true, ndV x, .bool true]) w' := by
 cases m with
 | none =>
  obtain ⟨rfl, rfl, a1, s1, b1, hb⟩ := h
  exact .inl ⟨List.Perm.refl _, run_next_nil hb ty⟩
 | some b =>
  obtain ⟨D, left, cnt, h1, h2, h3, h4, h5⟩ := h
  rcases h1.next nd_law ty with ⟨h0, hl, hrun⟩ | ⟨key, val, kl, y, w', cnt', hkey, hlk, hv, hat, hrun, hr, hlt, hgr, hsz, hen⟩
  ·refine .inl ⟨(List.perm_ext_iff_of_nodup h5 h2.up.nodup).mpr (fun x => ⟨h4 x, fun hx => ?_⟩), hrun⟩
   exact Classical.byContradiction (fun hn => by
    have := (h3 (nl x)).mpr ⟨x, hx, hn, rfl⟩
    rw [hl] at this; cases this)
  ·obtain ⟨x, hx, hn, rfl⟩ := (h3 kl).mp hlk
   have hk : key = ndV x := nd_law.inj hkey (nd_key (h2.wf x hx))
   have hvy := hat (.lit (.bool false))
   rw [h2.val _ _ ((h2.has x (h2.wf x hx)).mpr hx)] at hvy
   have hval : val = .bool true := by
    refine plain_bool_inv (ps := y.2) Tryd.underlying4 ?_
    have : y = (DataW.lit (Lit.bool true), y.2) := by rw [hvy]
    rw [← this]; exact hv
   subst hk hval
   have hnd : (done ++ [x]).Nodup := List.nodup_append.mpr ⟨h5, by simp, fun a ha c hc e => hn (by rw [List.mem_singleton] at hc; rw [← hc, ← e]; exact ha)⟩
   have hsub : ∀ z ∈ done ++ [x], z ∈ r := fun z hz => by
    rcases List.mem_append.mp hz with hz | hz
    ·exact h4 z hz
    ·rw [List.mem_singleton.mp hz]; exact hx
   have hlen : done.length < r.length := by
    have h6 := @length_le_of_subset Nd (Classical.typeDecidableEq _) _ _ hnd hsub
    rw [List.length_append, List.length_singleton] at h6
    omega
   refine .inr ⟨x, w', hx, hlen, ⟨D, _, cnt', hr, h2, fun l => ?_, hsub, hnd⟩, hgr, ?_, hen, hrun⟩
   ·rw [Bool.and_eq_true, h3]
    constructor
    ·rintro ⟨⟨z, hz, hzn, rfl⟩, hne⟩
     refine ⟨z, hz, fun hm => ?_, rfl⟩
     rcases List.mem_append.mp hm with hm | hm
     ·exact hzn hm
     ·rw [List.mem_singleton.mp hm, WideAt.sameKey_self (nl_lit x)] at hne
      cases hne
    ·rintro ⟨z, hz, hzn, rfl⟩
     refine ⟨⟨z, hz, fun hm => hzn (List.mem_append_left _ hm), rfl⟩, ?_⟩
     rw [Maps.sameKey_ne (fun e => hzn (List.mem_append_right _ (by rw [nl_inj (h2.wf z hz) (h2.wf x hx) e]; simp)))]
     rfl
   ·show w'.rangeLeft b q < w.rangeLeft b q
    rw [hr.left_eq, h1.left_eq]; exact hlt
end
abbrev kK : Nat := 41
abbrev kK1 : Nat := 55
theorem keys_in (F : Fence) (n : Nat) (h7 : F.fn kK) (hro : F.round = none) (mb : Option Nat) (w : World) :
  CallsIn F n Tryd.prog kK #[.map mb] w fun e w' => e = .returned (.func (.func kK1) #[] #[.pointer (some ⟨w.heap.size, 0, none⟩)]) ∧ w' = w.alloc (.cells #[.map mb] tM) := by
 refine callsIn_of_wp Tryd.func41 rfl h7 ?_ hro
 simp only [Tryd.ntmps41, List.size_toArray, List.length_cons, List.length_nil, Nat.reduceAdd, Nat.reduceSub, Array.replicate_succ, Array.replicate_zero, List.push_toArray, List.append_toArray, List.nil_append, List.cons_append]
 gi_wp2
 go_ret
 exact ⟨rfl, rfl⟩
set_option maxRecDepth 100000 in
set_option maxHeartbeats 4000000 in
theorem keys1_in (F : Fence) (n : Nat) (h10 : F.fn kK1) (hro : F.round = none) (hn : 1 ≤ n) (l Bm : Nat) (m : Option Nat) (r : List Nd) (J : List Nd → World → Prop)
  (hY : ∀ pre x W, J pre W → pre.length < r.length → YieldAt F (n - 1) Tryd.prog l #[ndV x] W fun e W' => e = .returned (.bool true) ∧ J (pre ++ [x]) W' ∧ KeepsWalks W W')
  (W : World) (hJ : AbidesFrom W.heap.size J) (hm : W.cell? ⟨Bm, 0, none⟩ = some (.map m)) (hs : SetO W m r) (h0 : J [] W) :
  CallsIn F n Tryd.prog kK1 #[.func (.yield l) #[] #[], .pointer (some ⟨Bm, 0, none⟩)] W fun e W' => (∃ v, e = .returned v) ∧ ∃ ss : List Nd, ss.Perm r ∧ J ss W' := by
 refine callsIn_of_wp Tryd.func55 rfl h10 ?_ hro
 simp only [Tryd.ntmps55, List.size_toArray, List.length_cons, List.length_nil, Nat.reduceAdd, Nat.reduceSub, Array.replicate_succ, Array.replicate_zero, List.push_toArray, List.append_toArray, List.nil_append, List.cons_append]
 gi_wp2_with (first
  | (gi_at_range; refine RunO.start_in hs rfl (.tmp 4) rfl rfl ?_; intro w0 hr0 hg0)
  | gi_in)
 go_frame
 gi_loopw [6] (fun _ wr => ∃ ss : List Nd, RunO wr m W.heap.size r ss ∧ J ss wr) (fun _ wr => leftO m W.heap.size wr)
 case atStart => exact ⟨[], hr0, hJ [] W w0 none h0 hg0 (fun r e => by cases e)⟩
 case round =>
  obtain ⟨ss, hr, hJs⟩ := hrel
  rcases hr.next_run 0 with ⟨hp, hrun⟩ | ⟨x, w2, hx, hl, hr2, hg2, hlt, hen, hrun⟩
  ·gi_wp2_with (first
    | (gi_at_next; refine next_in_of rfl (.tmp 5) rfl rfl hrun ?_)
    | gi_in)
   go_end0
   exact ⟨⟨_, rfl⟩, ss, hp, hJs⟩
  ·have hJ2 : J ss w2 := hJ ss wr w2 (some W.heap.size) hJs hg2 (fun r e => by cases e; exact ⟨Nat.le_refl _, hr.iter_walk⟩)
   have hJ3 : J ss (w2.alloc (.cells #[.int .i64 x.f0, .int .i64 x.f1, .string x.f2] 24)) := hJ ss w2 _ none hJ2 (World.grownBy_alloc w2 _ none) (fun r e => by cases e)
   obtain ⟨fn, tmps, assign, body, hy, hR⟩ := hY ss x (w2.alloc (.cells #[.int .i64 x.f0, .int .i64 x.f1, .string x.f2] 24)) hJ3 hl
   have hr3 := hr2.walks (KeepsWalks.alloc w2 (.cells #[.int .i64 x.f0, .int .i64 x.f1, .string x.f2] 24))
   have hlt3 : leftO m W.heap.size (w2.alloc (.cells #[.int .i64 x.f0, .int .i64 x.f1, .string x.f2] 24)) < leftO m W.heap.size wr := by rw [hr2.left_walks (KeepsWalks.alloc w2 _)]; exact hlt
   unfold ndV at hen hy
   clear hg2 hJ2 hJ3
   gi_wp2_with (first
    | (gi_at_next; refine next_in_of rfl (.tmp 5) rfl rfl hrun ?_)
    | gi_in)
   refine hR.mono ?_
   rintro e W3 ⟨rfl, hJ4, hk3⟩
   have hr4 := hr3.walks hk3
   have hlt4 : leftO m W.heap.size W3 < leftO m W.heap.size wr := by rw [hr3.left_walks hk3]; exact hlt3
   gi_wp2
   go_roundw
   case rel => exact ⟨ss ++ [x], hr4, hJ4⟩
   case measure => exact hlt4
/-- maps.Keys of a set hands back an iterator over its nodes. -/
theorem keys_gives (F : Fence) (n : Nat) (h10 : F.fn kK1) (hro : F.round = none) (hn : 1 ≤ n) (Bm : Nat) (m : Option Nat) (r : List Nd) (w : World) (hBm : Bm < w.heap.size)
  (hm : w.cell? ⟨Bm, 0, none⟩ = some (.map m)) (hs : SetO w m r) :
  SeqGives F n Tryd.prog kK1 #[.pointer (some ⟨Bm, 0, none⟩)] ndV (fun ss => ss.Perm r) r.length w := fun l J W hW hJ hY h0 =>
 keys1_in F n h10 hro hn l Bm m r J hY W hJ ((hW.cell (p := ⟨Bm, 0, none⟩) hBm).trans hm) (hs.below hW) h0
/-! ### slices.AppendSeq -/
abbrev fAp : Nat := 65
abbrev fCo : Nat := 53
noncomputable def apParts : Code × Code := match Tryd.f65.body with | some (.seq _ (.seq (.seq _ (.block _ (.rangeFunc _ _ a b))) _)) => (a, b) | _ => (.skip, .skip)
noncomputable def apAssign : Code := apParts.1
noncomputable def apBody : Code := apParts.2
def ndC (x : Nd) : List Value := [.int .i64 x.f0, .int .i64 x.f1, .string x.f2]
def ndCs (ss : List Nd) : List Value := ss.flatMap ndC
theorem ndCs_snoc (ss : List Nd) (x : Nd) : ndCs (ss ++ [x]) = ndCs ss ++ ndC x := by unfold ndCs; rw [List.flatMap_append]; simp
theorem ndCs_len : ∀ ss : List Nd, (ndCs ss).length = ss.length * 3
 | [] => rfl
 | x :: ss => by
  have := ndCs_len ss
  unfold ndCs at this ⊢
  rw [List.flatMap_cons, List.length_append, this, List.length_cons]
  simp [ndC]; omega
noncomputable def apRec (fn : FuncId) (sv : Value) (Bs D : Nat) (st : LoopState) (pend : Option Code) : Loop :=
 { state := st, pending := pend, fn, tmps := #[.slice none 0 0, sv, .pointer (some ⟨Bs, 0, none⟩), undef, .slice none 0 0, undef, sv, undef, undef, undef, undef, undef, undef], params := #[7], assign := apAssign, body := apBody, defers := D }
structure ApAt (w0 : World) (fn : FuncId) (sv : Value) (Bs l D : Nat) (ss : List Nd) (W : World) : Prop where
 box : ∃ v, W.heap[Bs]? = some (.cells #[v] 45 (0, 0)) ∧ W.ownsRow w0.heap.size 24 3 v ss.length (ndCs ss)
 L : W.heap[l]? = some (.loop (apRec fn sv Bs D .ready none))
 K : W.heap[D]? = some (.deferred (some []))
 below : Below w0.heap.size w0 W
/-- A slice's own row is no walk's object: it abides an iterator's step. -/
theorem ownsRow_abides {W W' : World} {row : Option Nat} {base : Nat} {e : TypeId} {size : Nat} {v : Value} {k : Nat} {xs : List Value} (h : W.ownsRow base e size v k xs) (hg : W.grownBy W' row)
  (hrow : ∀ r, row = some r → ∃ o : Obj, W.heap[r]? = some o ∧ o.isWalk = true) : W'.ownsRow base e size v k xs := by
 refine h.kept hg ?_
 rcases h.2 with ⟨rfl, _⟩ | ⟨g, cap, cur, rfl, _, hgb, _⟩
 ·exact .inl rfl
 ·refine .inr fun e' => ?_
  obtain ⟨o, ho, hw⟩ := hrow g (by simpa [Value.ownBlock] using e'.symm)
  rw [hgb] at ho; cases ho; cases hw
theorem ap_abides (w0 : World) (fn : FuncId) (sv : Value) (Bs l D B : Nat) (hB : w0.heap.size ≤ B) : AbidesFrom B (ApAt w0 fn sv Bs l D) := fun s W W' row h hg hrow => by
 have hrow' : ∀ r, row = some r → ∃ o : Obj, W.heap[r]? = some o ∧ o.isWalk = true := fun r e => (hrow r e).2
 obtain ⟨v, hv, hr⟩ := h.box
 exact ⟨⟨v, (grownBy_keeps hg hrow' hv rfl).trans hv, ownsRow_abides hr hg hrow'⟩, (grownBy_keeps hg hrow' h.L rfl).trans h.L, (grownBy_keeps hg hrow' h.K rfl).trans h.K,
  h.below.grown hg h.below.size (fun k e => Nat.le_trans hB (hrow k e).1)⟩
theorem grownBy_putObj (W : World) (l : Nat) (o : Obj) : W.grownBy (W.putObj l o) (some l) :=
 ⟨rfl, rfl, rfl, by simp, fun k _ hk => World.putObj_heap_other (fun e => hk (by rw [e]))⟩
theorem grownBy_setCell0 (W : World) (b : Nat) (v : Value) : W.grownBy (W.setCell ⟨b, 0, none⟩ v) (some b) :=
 ⟨rfl, rfl, rfl, (KeepsWalks.setCell W _ v).size, fun k _ hk => Below.heap_setCell _ _ _ k (fun e => hk (by rw [e]))⟩
/-- A slice's own row is not a block that holds something else than cells of its element's type. -/
theorem ownsRow_ne {W : World} {base : Nat} {e : TypeId} {size : Nat} {v : Value} {k : Nat} {xs : List Value} (h : W.ownsRow base e size v k xs) {j : Nat} {o : Obj} (hj : W.heap[j]? = some o) (hno : ∀ cur, o ≠ .cells cur e (0, 0)) :
  v.ownBlock = none ∨ v.ownBlock ≠ some j := by
 rcases h.2 with ⟨rfl, _⟩ | ⟨g, cap, cur, rfl, _, hgb, _⟩
 ·exact .inl rfl
 ·refine .inr fun e' => ?_
  have : g = j := by simpa [Value.ownBlock] using e'
  subst this; rw [hgb] at hj; cases hj; exact hno cur rfl
theorem cell_of_box {W : World} {B : Nat} {v : Value} {t : TypeId} (h : W.heap[B]? = some (.cells #[v] t (0, 0))) : W.cell? ⟨B, 0, none⟩ = some v ∧ W.frozen? ⟨B, 0, none⟩ = false := by
 constructor <;> simp [World.cell?, World.frozen?, h]
theorem heap_setCell_box {W : World} {B : Nat} {v : Value} {t : TypeId} (v' : Value) (h : W.heap[B]? = some (.cells #[v] t (0, 0))) : (W.setCell ⟨B, 0, none⟩ v').heap[B]? = some (.cells #[v'] t (0, 0)) := by
 obtain ⟨hlt, hk⟩ := Array.getElem?_eq_some_iff.1 h
 show (W.heap.modify B _)[B]? = _
 rw [Array.getElem?_eq_getElem (by rw [Array.size_modify]; exact hlt), Array.getElem_modify_self, hk]
 rfl
theorem ownsRow_not_walk {W : World} {base : Nat} {e : TypeId} {size : Nat} {v : Value} {k : Nat} {xs : List Value} (h : W.ownsRow base e size v k xs) : ∀ (j : Nat) (o : Obj), v.ownBlock = some j → W.heap[j]? = some o → o.isWalk = false := by
 intro j o hj ho
 rcases h.2 with ⟨rfl, _⟩ | ⟨g, cap, cur, rfl, _, hgb, _⟩
 ·simp [Value.ownBlock] at hj
 ·have : g = j := by simpa [Value.ownBlock] using hj
  subst this; rw [hgb] at ho; cases ho; rfl
theorem infoNd : (Tryd.prog.info? 24).map (fun i => (i.zero, i.size, i.bytes)) = some (some (.agg #[.int .i64 0, .int .i64 0, .string ⟨#[]⟩]), 3, 32) := by kernel_rfl
theorem own_shape {W : World} {base : Nat} {e : TypeId} {n : Nat} {xs : List Value} {v' : Value} (h : W.ownsRow base e 3 v' (n + 1) xs) : ∃ g' cap' cur', v' = .slice (some ⟨g', 0, none⟩) (n + 1) cap' ∧ base ≤ g' ∧ W.heap[g']? = some (.cells cur' e (0, 0)) ∧ n + 1 ≤ cap' ∧ cap' ≤ maxLen ∧ cur'.size = cap' * 3 ∧ cur'.toList.take ((n + 1) * 3) = xs := by
 rcases h.2 with ⟨_, h0⟩ | h'
 ·exact absurd h0 (by omega)
 ·exact h'
theorem cell_nd_new (w : World) (x : Nd) (t : TypeId) : ∀ j u, (ndC x)[j]? = some u → (w.alloc (.cells #[.int .i64 x.f0, .int .i64 x.f1, .string x.f2] t)).cell? ((⟨w.heap.size, 0, none⟩ : Addr).add j) = some u := by
 intro j u h
 unfold ndC at h
 rcases j with _ | _ | _ | j
 ·simpa [Addr.add] using h
 ·simpa [Addr.add] using h
 ·simpa [Addr.add] using h
 ·simp at h
set_option maxRecDepth 100000 in
set_option maxHeartbeats 2000000 in
theorem apYield (F : Fence) (m : Nat) (w0 : World) (fn : FuncId) (hfn : F.fn fn) (sv : Value) (Bs l D : Nat) (hBl : Bs ≠ l) (hDl : D ≠ l) (hDB : D ≠ Bs) (h0B : w0.heap.size ≤ Bs) (h0l : w0.heap.size ≤ l)
  (N : Nat) (hN : N ≤ maxLen) (hNb : N * 32 ≤ 140737488355328) (ss : List Nd) (x : Nd) (W : World) (h : ApAt w0 fn sv Bs l D ss W) (hlen : ss.length < N) :
  YieldAt F m Tryd.prog l #[ndV x] W fun e W' => e = .returned (.bool true) ∧ ApAt w0 fn sv Bs l D (ss ++ [x]) W' ∧ KeepsWalks W W' := by
 obtain ⟨i0, hi, hz0, hz1, hz2⟩ := info_parts infoNd
 refine ⟨fn, #[.slice none 0 0, sv, .pointer (some ⟨Bs, 0, none⟩), undef, .slice none 0 0, undef, sv, ndV x, undef, undef, undef, undef, undef], apAssign, apBody, by simpa [apRec] using run_yield (P := Tryd.prog) (args := #[ndV x]) h.L rfl, roundIn_of_wpIn hfn ?_⟩
 have hl0 : l < W.heap.size := (Array.getElem?_eq_some_iff.1 h.L).1
 have hB0 : Bs < W.heap.size := by obtain ⟨v, hv, _⟩ := h.box; exact (Array.getElem?_eq_some_iff.1 hv).1
 have h1 : ApAt w0 fn sv Bs l D ss (W.alloc (.cells #[.int .i64 x.f0, .int .i64 x.f1, .string x.f2] 24)) := by
  have hh := ap_abides w0 fn sv Bs l D w0.heap.size (Nat.le_refl _) ss W _ none h (World.grownBy_alloc W (.cells #[.int .i64 x.f0, .int .i64 x.f1, .string x.f2] 24) none) (fun r e => by cases e)
  exact hh
 have hX1 : (W.alloc (.cells #[.int .i64 x.f0, .int .i64 x.f1, .string x.f2] 24)).heap[W.heap.size]? = some (.cells #[.int .i64 x.f0, .int .i64 x.f1, .string x.f2] 24 (0, 0)) := blk_new _ _
 have hkW : KeepsWalks W (W.alloc (.cells #[.int .i64 x.f0, .int .i64 x.f1, .string x.f2] 24)) := KeepsWalks.alloc _ _
 unfold apAssign apParts Tryd.f65
 unfold ndV
 gi_wp2_with (rw [Oper.semAt_eq _ _ _ (fun c h => by cases h)]; go_simp; try go_bits)
 generalize W.alloc (.cells #[.int .i64 x.f0, .int .i64 x.f1, .string x.f2] 24) = W1 at h1 hX1 hkW ⊢
 obtain ⟨v, hv, hrow⟩ := h1.box
 have hl : l < W1.heap.size := (Array.getElem?_eq_some_iff.1 h1.L).1
 have hbr := run_beginRound (P := Tryd.prog) h1.L rfl
 obtain ⟨W2, hW2⟩ : ∃ W2, W1.putObj l (.loop { apRec fn sv Bs D .ready none with state := .busy }) = W2 := ⟨_, rfl⟩
 rw [hW2] at hbr
 refine ⟨W2, hbr, ?_⟩
 have hg2 : W1.grownBy W2 (some l) := by rw [← hW2]; exact grownBy_putObj _ _ _
 have hk2 : KeepsWalks W W2 := hkW.trans (by rw [← hW2]; exact KeepsWalks.putObj _ h1.L rfl)
 have hv2 : W2.heap[Bs]? = some (.cells #[v] 45 (0, 0)) := by rw [← hW2]; exact (World.putObj_heap_other hBl).trans hv
 have hX2 : W2.heap[W.heap.size]? = some (.cells #[.int .i64 x.f0, .int .i64 x.f1, .string x.f2] 24 (0, 0)) := by rw [← hW2]; exact (World.putObj_heap_other (by omega)).trans hX1
 have hK2 : W2.heap[D]? = some (.deferred (some [])) := by rw [← hW2]; exact (World.putObj_heap_other hDl).trans h1.K
 have hL2 : W2.heap[l]? = some (.loop { apRec fn sv Bs D .ready none with state := .busy }) := by rw [← hW2]; exact World.putObj_heap_same hl
 have hrow2 : W2.ownsRow w0.heap.size 24 3 v ss.length (ndCs ss) := hrow.kept hg2 (ownsRow_ne hrow h1.L (fun cur e => by cases e))
 have hb2 : Below w0.heap.size w0 W2 := h1.below.grown hg2 h1.below.size (fun k e => by cases e; exact h0l)
 obtain ⟨hc2, hf2⟩ := cell_of_box hv2
 have hx2 := bk3 hX2
 have hBlt : Bs < W2.heap.size := (Array.getElem?_eq_some_iff.1 hv2).1
 have hl2 : l < W2.heap.size := (Array.getElem?_eq_some_iff.1 hL2).1
 have hDlt : D < W2.heap.size := (Array.getElem?_eq_some_iff.1 hK2).1
 have ne_of : ∀ {j : Nat} {o : Obj}, W2.heap[j]? = some o → (∀ cur, o ≠ .cells cur 24 (0, 0)) → some j ≠ v.ownBlock := fun hj hno => by
  rcases ownsRow_ne hrow2 hj hno with e | e
  ·rw [e]; simp
  ·exact fun e' => e e'.symm
 clear hW2 hbr hX1 hv hrow hl hg2 hkW h1 h
 unfold apBody apParts Tryd.f65
 gi_wp2_with (first
  | (gi_at_builtin; refine wpListIn_append_own _ rfl _ _ 45 rfl w0.heap.size 24 i0 (.agg #[.int .i64 0, .int .i64 0, .string ⟨#[]⟩]) 3 32 Tryd.underlying45 hi hz0 hz1 hz2 rfl (by decide) _ _ _ rfl (hrow2.alloc _) ⟨W2.heap.size, 0, none⟩ 1 1 (ndC x) rfl rfl (cell_nd_new _ _ _) (by simp [Value.oneCell', ndC]) (by omega) (by omega) (by have := hb2.size; simp; omega) ?_; intro v' w3 hown' hg3 hnil3; have hv3 : w3.heap[Bs]? = some (.cells #[v] 45 (0, 0)) := (hg3.block Bs (by simp; omega) (ne_of hv2 (fun cur e => by cases e))).trans ((Below.heap_alloc _ _ Bs hBlt).trans hv2); obtain ⟨hc3, hf3⟩ := cell_of_box hv3; obtain ⟨g', cap', cur', rfl, hbase', hgb', hr1, hr2, hr3, hr4⟩ := own_shape hown'; go_frame)
  | (rw [Oper.semAt_eq _ _ _ (fun c h => by cases h)]; go_simp; try go_bits))
 have hg3' : (W2.alloc (.cells #[.int .i64 x.f0, .int .i64 x.f1, .string x.f2] 24)).grownBy w3 v.ownBlock := hg3
 have hL3 : w3.heap[l]? = some (.loop { apRec fn sv Bs D .ready none with state := .busy }) := (hg3'.block l (by simp; omega) (ne_of hL2 (fun cur e => by cases e))).trans ((Below.heap_alloc _ _ l hl2).trans hL2)
 have hK3 : w3.heap[D]? = some (.deferred (some [])) := (hg3'.block D (by simp; omega) (ne_of hK2 (fun cur e => by cases e))).trans ((Below.heap_alloc _ _ D hDlt).trans hK2)
 obtain ⟨w4, hw4⟩ : ∃ w4, w3.setCell ⟨Bs, 0, none⟩ (.slice (some ⟨g', 0, none⟩) (ss.length + 1) cap') = w4 := ⟨_, rfl⟩
 rw [hw4]
 have hg4 : w3.grownBy w4 (some Bs) := by rw [← hw4]; exact grownBy_setCell0 _ _ _
 have hv4 : w4.heap[Bs]? = some (.cells #[.slice (some ⟨g', 0, none⟩) (ss.length + 1) cap'] 45 (0, 0)) := by rw [← hw4]; exact heap_setCell_box _ hv3
 have hL4 : w4.heap[l]? = some (.loop { apRec fn sv Bs D .ready none with state := .busy }) := (hg4.block l (Array.getElem?_eq_some_iff.1 hL3).1 (fun e => hBl (by cases e; rfl))).trans hL3
 have hK4 : w4.heap[D]? = some (.deferred (some [])) := (hg4.block D (Array.getElem?_eq_some_iff.1 hK3).1 (fun e => hDB (by cases e; rfl))).trans hK3
 have hrow4 := hown'.kept hg4 (ownsRow_ne hown' hv3 (fun cur e => by cases e))
 have hl4 : l < w4.heap.size := (Array.getElem?_eq_some_iff.1 hL4).1
 have hb3 : Below w0.heap.size w0 w3 := (hb2.alloc hb2.size _).grown hg3' (by have := hb2.size; simp; omega) (fun k e => (hrow2.lt k e).1)
 have hb4 : Below w0.heap.size w0 w4 := hb3.grown hg4 hb3.size (fun k e => by cases e; exact h0B)
 have hk4 : KeepsWalks W w4 := ((hk2.trans (KeepsWalks.alloc _ _)).trans (KeepsWalks.of_grownBy hg3' (ownsRow_not_walk (hrow2.alloc _)))).trans (by rw [← hw4]; exact KeepsWalks.setCell _ _ _)
 clear hw4
 refine ⟨_, _, run_endRound none hL4, rfl, ⟨⟨_, (World.putObj_heap_other hBl).trans hv4, ?_⟩, World.putObj_heap_same hl4, (World.putObj_heap_other hDl).trans hK4, hb4.grown (grownBy_putObj _ _ _) hb4.size (fun k e => by cases e; exact h0l)⟩, hk4.trans (KeepsWalks.putObj _ hL4 rfl)⟩
 have := hrow4.kept (grownBy_putObj w4 l (.loop { { apRec fn sv Bs D .ready none with state := .busy } with state := if (none : Option Code).isNone then .ready else .done, pending := none })) (ownsRow_ne hrow4 hL4 (fun cur e => by cases e))
 rw [ndCs_snoc]
 simpa using this
set_option maxRecDepth 100000 in
set_option maxHeartbeats 2000000 in
theorem appendSeq_in (F : Fence) (n : Nat) (h11 : F.fn fAp) (hro : F.round = none) (hn : 2 ≤ n) (g : Nat) (lb : Array Value) (hFg : F.fn g) (eg : ∀ args w, (callFunc g args).run Tryd.prog w = .ok (.enter g args) w)
  (S : List Nd → Prop) (N : Nat) (hN : N ≤ maxLen) (hNb : N * 32 ≤ 140737488355328) (w : World) (hseq : SeqGives F (n - 1) Tryd.prog g lb ndV S N w) :
  CallsIn F n Tryd.prog fAp #[.slice none 0 0, .func (.func g) #[] lb] w fun e w' => ∃ (v : Value) (ss : List Nd), e = .returned v ∧ S ss ∧ w'.ownsRow w.heap.size 24 3 v ss.length (ndCs ss) ∧ Below w.heap.size w w' := by
 have h1 : 1 ≤ n := by omega
 refine callsIn_of_wp_marks Tryd.func65 rfl h11 ?_ hro
 simp only [Tryd.ntmps65, List.size_toArray, List.length_cons, List.length_nil, Nat.reduceAdd, Nat.reduceSub, Array.replicate_succ, Array.replicate_zero, List.push_toArray, List.append_toArray, List.nil_append, List.cons_append]
 gi_wp2
 refine wpIn_rangeFunc ?_
 intro fn hfn
 rw [hro]
 obtain ⟨W0, hW0⟩ : ∃ W0, w.alloc (.cells #[.slice none 0 0] 45) = W0 := ⟨_, rfl⟩
 have hs0 : W0.heap.size = w.heap.size + 1 := by rw [← hW0]; simp
 have hv0 : W0.heap[w.heap.size]? = some (.cells #[.slice none 0 0] 45 (0, 0)) := by rw [← hW0]; exact World.alloc_heap_new w _
 have hb0 : Below w.heap.size w W0 := by rw [← hW0]; exact (Below.refl _ w).alloc (Nat.le_refl _) _
 rw [hW0]
 obtain ⟨W1, hW1⟩ : ∃ W1, (W0.alloc (.deferred (some []))).alloc (.loop (apRec fn (.func (.func g) #[] lb) w.heap.size W0.heap.size .ready none)) = W1 := ⟨_, rfl⟩
 have hold : ∀ k, k < W0.heap.size → W1.heap[k]? = W0.heap[k]? := fun k hk => by
  rw [← hW1]; exact (Below.heap_alloc _ _ k (by simp; omega)).trans (Below.heap_alloc _ _ k hk)
 have hb1 : Below w.heap.size w W1 := by rw [← hW1]; exact (hb0.alloc hb0.size _).alloc (by have := hb0.size; simp; omega) _
 have hs1 : W1.heap.size = W0.heap.size + 2 := by rw [← hW1]; simp
 have hM : ApAt w fn (.func (.func g) #[] lb) w.heap.size (W0.heap.size + 1) W0.heap.size [] W1 :=
  ⟨⟨_, (hold w.heap.size (by omega)).trans hv0, ⟨rfl, .inl ⟨rfl, rfl⟩⟩⟩,
   by rw [← hW1]; have := World.alloc_heap_new (W0.alloc (.deferred (some []))) (.loop (apRec fn (.func (.func g) #[] lb) w.heap.size W0.heap.size .ready none)); rwa [World.size_alloc] at this,
   by rw [← hW1]; exact (Below.heap_alloc _ _ _ (by simp)).trans (World.alloc_heap_new W0 _), hb1⟩
 refine ⟨W0.heap.size + 1, [{ target := .collected W0.heap.size, args := #[] }], W1, { target := .fn (.func g) lb, args := #[.func (.yield (W0.heap.size + 1)) #[] #[]] }, W1, g,
  #[.func (.yield (W0.heap.size + 1)) #[] #[]] ++ lb, W1, ?_, ?_, ?_, ?_, fun _ => h1, ?_⟩
 ·rw [← hW1]; exact run_enterLoop_outer _ _ _ _ _
 ·simp [resolve, go_sem]
 ·intro f' hf'; simp [Target.leads] at hf'; subst hf'; exact hFg
 ·simp [invoke, go_sem, eg]
 ·refine (hseq (W0.heap.size + 1) (ApAt w fn (.func (.func g) #[] lb) w.heap.size (W0.heap.size + 1) W0.heap.size) W1 hb1 (ap_abides _ _ _ _ _ _ _ hb1.size)
   (fun pre x W hJ hl => apYield F (n - 1 - 1) w fn hfn _ w.heap.size (W0.heap.size + 1) W0.heap.size (by omega) (by omega) (by omega) (Nat.le_refl _) (by omega) N hN hNb pre x W hJ hl) hM).mono ?_
  rintro e W2 ⟨⟨v0, rfl⟩, ss, hS, h2⟩
  obtain ⟨v, hv, hrow⟩ := h2.box
  have hend := run_endLoop (P := Tryd.prog) h2.L (by simp [apRec])
  obtain ⟨W3, hW3⟩ : ∃ W3, W2.putObj (W0.heap.size + 1) (.loop { apRec fn (.func (.func g) #[] lb) w.heap.size W0.heap.size .ready none with state := .exhausted }) = W3 := ⟨_, rfl⟩
  rw [hW3] at hend
  have hg3 : W2.grownBy W3 (some (W0.heap.size + 1)) := by rw [← hW3]; exact grownBy_putObj _ _ _
  have hv3 : W3.heap[w.heap.size]? = some (.cells #[v] 45 (0, 0)) := by rw [← hW3]; exact (World.putObj_heap_other (by omega)).trans hv
  have hK3 : W3.heap[W0.heap.size]? = some (.deferred (some [])) := by rw [← hW3]; exact (World.putObj_heap_other (by omega)).trans h2.K
  have hrow3 := hrow.kept hg3 (ownsRow_ne hrow h2.L (fun cur e => by cases e))
  have hb3 : Below w.heap.size w W3 := h2.below.grown hg3 h2.below.size (fun k e => by cases e; omega)
  obtain ⟨hc3, hf3⟩ := cell_of_box hv3
  clear hW3
  refine ⟨none, W3, hend, ?_⟩
  gi_wp2
  rw [← hs0]
  refine ⟨by simp, .inl ⟨_, _, rfl, run_takeDeferred hK3, ?_⟩⟩
  exact ⟨_, results_tmp rfl _ _ _, v, ss, rfl, hS, hrow3.kept (grownBy_putObj _ _ _) (ownsRow_ne hrow3 hK3 (fun cur e => by cases e))  , hb3.grown (grownBy_putObj _ _ _) hb3.size (fun k e => by cases e; omega)⟩
set_option maxHeartbeats 1000000 in
theorem collect_in (F : Fence) (n : Nat) (h8 : F.fn fCo) (h11 : F.fn fAp) (hro : F.round = none) (hn : 3 ≤ n) (g : Nat) (lb : Array Value) (hFg : F.fn g) (eg : ∀ args w, (callFunc g args).run Tryd.prog w = .ok (.enter g args) w)
  (S : List Nd → Prop) (N : Nat) (hN : N ≤ maxLen) (hNb : N * 32 ≤ 140737488355328) (w : World) (hseq : SeqGives F (n - 1 - 1) Tryd.prog g lb ndV S N w) :
  CallsIn F n Tryd.prog fCo #[.func (.func g) #[] lb] w fun e w' => ∃ (v : Value) (ss : List Nd), e = .returned v ∧ S ss ∧ w'.ownsRow w.heap.size 24 3 v ss.length (ndCs ss) ∧ Below w.heap.size w w' := by
 have h1 : 1 ≤ n := by omega
 refine callsIn_of_wp Tryd.func53 rfl h8 ?_ hro
 simp only [Tryd.ntmps53, List.size_toArray, List.length_cons, List.length_nil, Nat.reduceAdd, Nat.reduceSub, Array.replicate_succ, Array.replicate_zero, List.push_toArray, List.append_toArray, List.nil_append, List.cons_append]
 gi_wp2_with (gi_at_call 65; refine (appendSeq_in F (n - 1) h11 hro (by omega) g lb hFg eg S N hN hNb _ hseq).mono ?_; rintro e w' ⟨v, ss, rfl, hS, hrow, hb⟩)
 go_ret
 exact ⟨v, ss, rfl, hS, hrow, hb⟩
end Go.Proofs.YtgidnkmlnccaiaaDoor.Q
/- A row of nodes in memory, in the sort's words and in append's: plain. -/
namespace Go.Proofs.YtgidnkmlnccaiaaDoor.Q
open Go.RowKit Go.Proofs.YtgidnkmlnccaiaaDoorW.PrintWords Go.Proofs.YtgidnkmlnccaiaaDoorW.PrintLast Go.Proofs.YtgidnkmlnccaiaaDoorW.PrintMore
set_option linter.unusedVariables false
set_option linter.unusedSimpArgs false
open Go.Sort
noncomputable instance : Inhabited Nd := ⟨z24⟩
theorem ndCs_get : ∀ (l : List Nd) (t : Nat), t < l.length * 3 → (ndCs l)[t]? = some ((ndC (l[t / 3]!))[t % 3]!)
 | [], t, h => by simp at h
 | x :: l, t, h => by
  have e : ndCs (x :: l) = ndC x ++ ndCs l := by unfold ndCs; rw [List.flatMap_cons]
  rw [e]
  rcases Nat.lt_or_ge t 3 with h3 | h3
  ·have h0 : t / 3 = 0 := by omega
   have h1 : t % 3 = t := by omega
   rw [h0, h1, List.getElem?_append_left (by simpa [ndC] using h3)]
   have : t = 0 ∨ t = 1 ∨ t = 2 := by omega
   rcases this with rfl | rfl | rfl <;> simp [ndC]
  ·obtain ⟨u, rfl⟩ : ∃ u, t = u + 3 := ⟨t - 3, by omega⟩
   have h0 : (u + 3) / 3 = u / 3 + 1 := by omega
   have h1 : (u + 3) % 3 = u % 3 := by omega
   rw [List.getElem?_append_right (by simp [ndC]), h0, h1]
   have hl : (ndC x).length = 3 := rfl
   rw [hl, Nat.add_sub_cancel, ndCs_get l u (by rw [List.length_cons] at h; omega)]
   simp
theorem flat_eq (d : Array Nd) : flatK ndC 3 d = (ndCs d.toList).toArray := by
 have hsz : (ndCs d.toList).toArray.size = d.size * 3 := by rw [List.size_toArray, ndCs_len, Array.length_toList]
 refine ext_get! (by rw [size_flatK, hsz]) fun t ht0 => ?_
 have ht : t < d.size * 3 := by rw [size_flatK] at ht0; exact ht0
 have h2 : t < (ndCs d.toList).length := by rw [ndCs_len, Array.length_toList]; exact ht
 have e2 := ndCs_get d.toList t (by rw [Array.length_toList]; exact ht)
 rw [List.getElem?_eq_getElem h2] at e2
 injection e2 with e2
 rw [get_flatK ndC 3 d t ht, getElem!_pos _ t (by rw [hsz]; exact ht), List.getElem_toArray, e2]
 have hq : t / 3 < d.size := by omega
 rw [getElem!_pos d _ hq, getElem!_pos d.toList _ (by rw [Array.length_toList]; exact hq), Array.getElem_toList]
/-- Down. -/
theorem holds_of_own {w : World} {base : Nat} {e : TypeId} {v : Value} {n : Nat} {ss : List Nd} (h : w.ownsRow base e 3 v n (ndCs ss)) (hn : ss.length = n) (hpos : 0 < n) :
  ∃ g cap, v = .slice (some ⟨g, 0, none⟩) n cap ∧ base ≤ g ∧ g < w.heap.size ∧ n ≤ cap ∧ HoldsK ndC 3 w g 0 ss.toArray := by
 rcases h.2 with ⟨_, h0⟩ | ⟨g, cap, cur, rfl, hb, hg, hnc, hm, hs, ht⟩
 ·omega
 ·have hlt : g < w.heap.size := (Array.getElem?_eq_some_iff.1 hg).1
  refine ⟨g, cap, rfl, hb, hlt, hnc, ?_⟩
  unfold HoldsK
  rw [flat_eq]
  intro j hj
  rw [List.size_toArray, ndCs_len, List.toList_toArray, hn] at hj
  refine ⟨?_, by simp [World.frozen?, hg]⟩
  have e1 : (cur.toList.take (n * 3))[j]? = (ndCs ss)[j]? := by rw [ht]
  rw [List.getElem?_take, if_pos hj, Array.getElem?_toList] at e1
  simp only [World.cell?, hg, Nat.zero_add]
  simp only [Option.isSome_none, Bool.false_eq_true, if_false]
  have hj2 : j < (ndCs ss).length := by rw [ndCs_len, hn]; exact hj
  rw [e1, List.getElem?_eq_getElem hj2]
  simp [getElem!_pos, hj2]
/-- Up. -/
theorem own_sorted {w : World} {base : Nat} {e : TypeId} {g n cap q : Nat} {os : Array Obj} {ss : List Nd} {d : Array Nd} (h : w.ownsRow base e 3 (.slice (some ⟨g, 0, none⟩) n cap) n (ndCs ss)) (hd : d.size = n) (hpos : 0 < n) :
  (sortWorldK ndC 3 w g 0 q d os).ownsRow base e 3 (.slice (some ⟨g, 0, none⟩) n cap) n (ndCs d.toList) ∧ w.grownBy (sortWorldK ndC 3 w g 0 q d os) (some g) := by
 unfold sortWorldK putRowK
 rw [flat_eq]
 have hgr : w.grownBy (grow (putRow id (Sort.ahead w q) g 0 (ndCs d.toList).toArray) os) (some g) := by
  refine ⟨rfl, rfl, rfl, by simp, fun k hk hne => ?_⟩
  rw [heap_grow_old _ _ (by simpa using hk)]
  have : g ≠ k := fun e => hne (by rw [e])
  simp [putRow, mapBlock, Sort.ahead, Array.getElem?_modify, this]
 refine ⟨?_, hgr⟩
 rcases h.2 with ⟨e0, _⟩ | ⟨g', cap', cur, e0, hb, hg, hn, hm, hs, ht⟩
 ·cases e0
 ·injection e0 with e1 _ e3
  injection e1 with e1
  injection e1 with e1
  subst e1; subst e3
  have hglt : g < w.heap.size := (Array.getElem?_eq_some_iff.1 hg).1
  refine ⟨by rw [ndCs_len, Array.length_toList, hd], .inr ⟨g, cap, putCells id 0 (ndCs d.toList).toArray cur, rfl, hb, ?_, hn, hm, by simpa [putCells] using hs, ?_⟩⟩
  ·rw [heap_grow_old _ _ (by simpa using hglt)]
   simp [putRow, mapBlock, Sort.ahead, Array.getElem?_modify, hg, onCells]
  ·apply List.ext_getElem?
   intro j
   rw [List.getElem?_take, Array.getElem?_toList]
   by_cases hj : j < n * 3
   ·have hjc : j < cur.size := by omega
    have hj2 : j < (ndCs d.toList).length := by rw [ndCs_len, Array.length_toList, hd]; exact hj
    rw [if_pos hj, putCells, Array.getElem?_mapIdx, Array.getElem?_eq_getElem hjc, Option.map_some, if_pos (by simpa using hj2), List.getElem?_eq_getElem hj2]
    simp [getElem!_pos, hj2]
   ·rw [if_neg hj, List.getElem?_eq_none (by rw [ndCs_len, Array.length_toList, hd]; omega)]
end Go.Proofs.YtgidnkmlnccaiaaDoor.Q
/- node.Compare as the sort asks it: nothing but draws and new blocks. The walk is written by wip/tool/genC.py of the printed text. -/
namespace Go.Proofs.YtgidnkmlnccaiaaDoor.Q
open Go.RowKit Go.Proofs.YtgidnkmlnccaiaaDoorW.PrintWords Go.Proofs.YtgidnkmlnccaiaaDoorW.PrintLast Go.Proofs.YtgidnkmlnccaiaaDoorW.PrintMore
set_option linter.unusedVariables false
set_option linter.unusedSimpArgs false
structure GrewD (w w' : World) : Prop where
 mk :: (out : ∃ q os', w' = Go.Sort.grow (w.drewN q) os')
theorem grow_alloc (w : World) (os : Array Obj) (o : Obj) : (Go.Sort.grow w os).alloc o = Go.Sort.grow w (os ++ #[o]) := by
 rw [Go.Sort.alloc_eq_grow, Go.Sort.grow_grow]
theorem GrewD.refl (w : World) : GrewD w w := ⟨0, #[], by rw [Go.Sort.grow_empty]; rfl⟩
theorem GrewD.alloc {w w' : World} (h : GrewD w w') (o : Obj) : GrewD w (w'.alloc o) := by
 obtain ⟨q, os, rfl⟩ := h
 exact ⟨q, os ++ #[o], grow_alloc _ _ _⟩
theorem GrewD.alloc' {w w' : World} {o : Obj} (h : GrewD w w') : GrewD w (w'.alloc o) := h.alloc o
theorem GrewD.drewN' {w w' : World} {n : Nat} (h : GrewD w w') : GrewD w (w'.drewN n) := by
 obtain ⟨q, os, rfl⟩ := h
 exact ⟨q + n, os, by show _ = Go.Sort.grow (w.drewN (q + n)) os; unfold Go.Sort.grow World.drewN; simp [Nat.add_assoc]⟩
theorem GrewD.drew {w w' : World} (h : GrewD w w') : GrewD w w'.drew := h.drewN' (n := 1)
theorem GrewD.size {w w' : World} (h : GrewD w w') : w.heap.size ≤ w'.heap.size := by
 obtain ⟨q, os, rfl⟩ := h
 show w.heap.size ≤ (w.heap ++ os).size
 rw [Array.size_append]; omega
theorem GrewD.step {w a b : World} (h : GrewD w a) (hx : ∃ o, b = a.alloc o) : GrewD w b := by
 obtain ⟨o, rfl⟩ := hx
 exact h.alloc o
section
variable {α : Type} {P : Program} {ops : Array Oper} {o : Oper} {a : Act} {Q : Exit → Act → World → Prop} {Kc : Act → World → Prop}
theorem R_lit_stepX (d : Kd α) {w0 W : World} (base e : Nat) (hw : Region.wanted o (yielded ops a.tmps) = true) {N : Tmp} (hd : o.dst = some N) {xs : List α} {inner : List Value} {ok okp : Nat → Prop}
  (hrun : (execOp a.eval o).run P W = .ok (.value (.slice (some ⟨W.heap.size, 0, none⟩) xs.length xs.length)) (W.alloc (.cells inner.toArray e)))
  (hrep : Reps (d.M W base okp) d.sz xs inner) (hok : ∀ k, okp k → ok k) (hfresh : ok W.heap.size) (HB : Below base w0 W) (hbase : base ≤ W.heap.size) (hm : xs.length ≤ 9223372036854775807)
  (h : ∀ v1 w1, d.R e w1 base ok v1 xs → Below base w0 w1 → (∃ ob, w1 = W.alloc ob) → Kc (a.put o.dst v1) w1) : if Region.wanted o (yielded ops a.tmps) = true then Oper.wp P o a W Kc Q else Kc (a.put o.dst undef) W := by
 refine event_step hw hrun (h _ _ ⟨fun k hk => ?_, inner, ?_, ?_⟩ (HB.alloc hbase _) ⟨_, rfl⟩)
 ·have : W.heap.size = k := by simpa [Value.ownBlock] using hk
  subst this
  exact hfresh
 ·have h2 := World.ownsRow_lit (base := base) (e := e) (size := d.sz) W inner.toArray xs.length hbase (by simpa [maxLen] using hm) (by simpa using hrep.1)
  simpa using h2
 ·refine hrep.imp_ (fun p c hp => d.M_mono (fun k hk => ⟨hok k hk.1, fun he => ?_⟩) (Kd.M_below (d.M_bound hp) (below_alloc (Below.refl _ _) _)))
  have h3 : k = W.heap.size := by simpa [Value.ownBlock] using he
  have := hk.2.2.1
  omega
end
set_option maxHeartbeats 8000000 in
set_option maxRecDepth 100000 in
theorem node_Compare.grows (k : Nat) (a0_0 : Int) (a0_1 : Int) (a0_2 : ByteArray) (a1_0 : Int) (a1_1 : Int) (a1_2 : ByteArray) (r : Int) (w : World) (h : node_Compare.f k a0_0 a0_1 a0_2 a1_0 a1_1 a1_2 = some r) :
  Calls Tryd.prog 12 #[.agg #[.int .i64 a0_0, .int .i64 a0_1, .string a0_2], .agg #[.int .i64 a1_0, .int .i64 a1_1, .string a1_2]] w fun e w' => e = .returned (.int .i64 r) ∧ GrewD w w' := by
 have hu24 := Tryd.underlying24
 have HB := Aside0.mk (GrewD.refl w)
 have H : ((cmp_Compare_int.f a0_0 a1_0).bind fun t151 => ((cmp_Compare_int.f a0_1 a1_1).bind fun t152 => ((cmp_Compare_string.f a0_2 a1_2).bind fun t153 => ((cmp_Or_int.f k (([t151, t152, t153] : List Int))).bind fun t157 => (some t157))))) = some r := h
 clear h
 replace H := Option.bind_eq_some_iff.mp H
 obtain ⟨t151, A30, H⟩ := H
 replace H : ((cmp_Compare_int.f a0_1 a1_1).bind fun t152 => ((cmp_Compare_string.f a0_2 a1_2).bind fun t153 => ((cmp_Or_int.f k (([t151, t152, t153] : List Int))).bind fun t157 => (some t157)))) = some r := H
 have A3 := Aside0.mk A30
 clear A30
 replace H := Option.bind_eq_some_iff.mp H
 obtain ⟨t152, A40, H⟩ := H
 replace H : ((cmp_Compare_string.f a0_2 a1_2).bind fun t153 => ((cmp_Or_int.f k (([t151, t152, t153] : List Int))).bind fun t157 => (some t157))) = some r := H
 have A4 := Aside0.mk A40
 clear A40
 replace H := Option.bind_eq_some_iff.mp H
 obtain ⟨t153, A50, H⟩ := H
 replace H : ((cmp_Or_int.f k (([t151, t152, t153] : List Int))).bind fun t157 => (some t157)) = some r := H
 have A5 := Aside0.mk A50
 clear A50
 obtain ⟨y154, hy154⟩ : ∃ y_ : List Int, y_ = (([t151, t152, t153] : List Int)) := ⟨_, rfl⟩
 replace H : ((cmp_Or_int.f k y154).bind fun t157 => (some t157)) = some r := by first | (rw [hy154]; with_reducible exact H) | (have H2_ := (Option.bind_some _ _).symm.trans H; rw [hy154]; with_reducible exact H2_) | (have H2_ := (Option.bind_some _ _).symm.trans H; with_reducible exact H2_) | with_reducible exact H | (rw [hy154]; exact H) | exact H
 have Ny154 := Aside0.mk hy154
 clear hy154
 replace H := Option.bind_eq_some_iff.mp H
 obtain ⟨t157, A60, H⟩ := H
 replace H : (some t157) = some r := H
 have A6 := Aside0.mk A60
 clear A60
 obtain rfl := Option.some.inj H
 go_enter Tryd.func12, Tryd.ntmps12
 go_upto_region 1 with (fail)
 have BK149 : Aside0 (((w.alloc (.cells #[.int .i64 a0_0, .int .i64 a0_1, .string a0_2] 24)).alloc (.cells #[.int .i64 a1_0, .int .i64 a1_1, .string a1_2] 24)).drew.heap[w.heap.size]? = some (.cells #[.int .i64 a0_0, .int .i64 a0_1, .string a0_2] 24 (0, 0))) := ⟨blk_drew (blk_alloc (blk_new _ _) _)⟩
 have BK150 : Aside0 (((w.alloc (.cells #[.int .i64 a0_0, .int .i64 a0_1, .string a0_2] 24)).alloc (.cells #[.int .i64 a1_0, .int .i64 a1_1, .string a1_2] 24)).drew.heap[w.heap.size + 1]? = some (.cells #[.int .i64 a1_0, .int .i64 a1_1, .string a1_2] 24 (0, 0))) := ⟨by
  have := blk_drew (blk_new (w.alloc (.cells #[.int .i64 a0_0, .int .i64 a0_1, .string a0_2] 24)) (.cells #[.int .i64 a1_0, .int .i64 a1_1, .string a1_2] 24))
  rw [World.size_alloc] at this
  exact this⟩
 have n0_ := Aside0.mk (GrewD.drew ((HB.out.alloc (.cells #[.int .i64 a0_0, .int .i64 a0_1, .string a0_2] 24)).alloc (.cells #[.int .i64 a1_0, .int .i64 a1_1, .string a1_2] 24)))
 clear HB
 have HB := n0_
 clear n0_
 generalize ((w.alloc (.cells #[.int .i64 a0_0, .int .i64 a0_1, .string a0_2] 24)).alloc (.cells #[.int .i64 a1_0, .int .i64 a1_1, .string a1_2] 24)) = w8 at BK149 BK150 HB ⊢
 generalize w.heap.size + 1 = gb150 at BK150 ⊢
 generalize hgb_ : w.heap.size = gb149 at BK149 ⊢
 refine start_ (n := 18) (S := fun w' => w'.cell? ⟨gb149, 0, none⟩ = some (.int .i64 a0_0) ∧ w'.cell? ⟨gb149, 1, none⟩ = some (.int .i64 a0_1) ∧ w'.cell? ⟨gb149, 2, none⟩ = some (.string a0_2) ∧ w'.cell? ⟨gb150, 0, none⟩ = some (.int .i64 a1_0) ∧ w'.cell? ⟨gb150, 1, none⟩ = some (.int .i64 a1_1) ∧ w'.cell? ⟨gb150, 2, none⟩ = some (.string a1_2)) (ds := []) #[false, false, false, false, false, false, false, false, false, false, false, false, false, false, false, false, false, false] (by kernel_rfl) rfl rfl ⟨(blk_cell BK149.out 0).trans rfl, (blk_cell BK149.out 1).trans rfl, (blk_cell BK149.out 2).trans rfl, (blk_cell BK150.out 0).trans rfl, (blk_cell BK150.out 1).trans rfl, (blk_cell BK150.out 2).trans rfl⟩ (fun hHeld => ?_); refine with_tabW node_Compare.tab1 node_Compare.bits1 (fun HT_ HW_ => ?_)
 generalize w8.drew = w9 at BK149 BK150 HB hHeld ⊢
 refine pure_ (i := 0) (N := some 5) (v := ?_) (a' := ?_) #[true, false, false, false, false, false, false, false, false, false, false, false, false, false, false, false, false, false] rfl rfl (any_of HT_.out (by kernel_rfl)) (fun _ _ _ h => h) (Or.inl ⟨by rfl, ?_⟩) ?_ ?_
 rotate_left
 ·intro w'
  go_simp
  with_reducible rfl
 rotate_left
 ·simp only [Act.put, List.setIfInBounds_toArray, List.set_cons_zero, List.set_cons_succ, i64_w, i32_w]
  rfl
 refine pure_ (i := 2) (N := some 7) (v := ?_) (a' := ?_) #[true, false, true, false, false, false, false, false, false, false, false, false, false, false, false, false, false, false] rfl rfl (any_of HT_.out (by kernel_rfl)) (fun _ _ _ h => h) (Or.inl ⟨by rfl, ?_⟩) ?_ ?_
 rotate_left
 ·intro w'
  go_simp
  with_reducible rfl
 rotate_left
 ·simp only [Act.put, List.setIfInBounds_toArray, List.set_cons_zero, List.set_cons_succ, i64_w, i32_w]
  rfl
 refine pure_ (i := 5) (N := some 10) (v := ?_) (a' := ?_) #[true, false, true, false, false, true, false, false, false, false, false, false, false, false, false, false, false, false] rfl rfl (any_of HT_.out (by kernel_rfl)) (fun _ _ _ h => h) (Or.inl ⟨by rfl, ?_⟩) ?_ ?_
 rotate_left
 ·intro w'
  go_simp
  with_reducible rfl
 rotate_left
 ·simp only [Act.put, List.setIfInBounds_toArray, List.set_cons_zero, List.set_cons_succ, i64_w, i32_w]
  rfl
 refine pure_ (i := 7) (N := some 12) (v := ?_) (a' := ?_) #[true, false, true, false, false, true, false, true, false, false, false, false, false, false, false, false, false, false] rfl rfl (any_of HT_.out (by kernel_rfl)) (fun _ _ _ h => h) (Or.inl ⟨by rfl, ?_⟩) ?_ ?_
 rotate_left
 ·intro w'
  go_simp
  with_reducible rfl
 rotate_left
 ·simp only [Act.put, List.setIfInBounds_toArray, List.set_cons_zero, List.set_cons_succ, i64_w, i32_w]
  rfl
 refine pure_ (i := 10) (N := some 15) (v := ?_) (a' := ?_) #[true, false, true, false, false, true, false, true, false, false, true, false, false, false, false, false, false, false] rfl rfl (any_of HT_.out (by kernel_rfl)) (fun _ _ _ h => h) (Or.inl ⟨by rfl, ?_⟩) ?_ ?_
 rotate_left
 ·intro w'
  go_simp
  with_reducible rfl
 rotate_left
 ·simp only [Act.put, List.setIfInBounds_toArray, List.set_cons_zero, List.set_cons_succ, i64_w, i32_w]
  rfl
 refine pure_ (i := 12) (N := some 17) (v := ?_) (a' := ?_) #[true, false, true, false, false, true, false, true, false, false, true, false, true, false, false, false, false, false] rfl rfl (any_of HT_.out (by kernel_rfl)) (fun _ _ _ h => h) (Or.inl ⟨by rfl, ?_⟩) ?_ ?_
 rotate_left
 ·intro w'
  go_simp
  with_reducible rfl
 rotate_left
 ·simp only [Act.put, List.setIfInBounds_toArray, List.set_cons_zero, List.set_cons_succ, i64_w, i32_w]
  rfl
 refine take_ (i := 1) (N := some 6) (v := ?_) (a' := ?_) #[true, true, true, false, false, true, false, true, false, false, true, false, true, false, false, false, false, false] rfl rfl (take_ofW HT_.out HW_.out (by kernel_rfl)) (fun _ _ _ h => h) (Or.inl ⟨by rfl, ?_⟩) hHeld ?_ ?_
 rotate_left
 ·rintro w' ⟨s0, s1, s2, s3, s4, s5⟩
  go_simp
  with_reducible rfl
 rotate_left
 ·simp only [Act.put, List.setIfInBounds_toArray, List.set_cons_zero, List.set_cons_succ, i64_w, i32_w]
  rfl
 refine take_ (i := 3) (N := some 8) (v := ?_) (a' := ?_) #[true, true, true, true, false, true, false, true, false, false, true, false, true, false, false, false, false, false] rfl rfl (take_ofW HT_.out HW_.out (by kernel_rfl)) (fun _ _ _ h => h) (Or.inl ⟨by rfl, ?_⟩) hHeld ?_ ?_
 rotate_left
 ·rintro w' ⟨s0, s1, s2, s3, s4, s5⟩
  go_simp
  with_reducible rfl
 rotate_left
 ·simp only [Act.put, List.setIfInBounds_toArray, List.set_cons_zero, List.set_cons_succ, i64_w, i32_w]
  rfl
 refine take_ (i := 6) (N := some 11) (v := ?_) (a' := ?_) #[true, true, true, true, false, true, true, true, false, false, true, false, true, false, false, false, false, false] rfl rfl (take_ofW HT_.out HW_.out (by kernel_rfl)) (fun _ _ _ h => h) (Or.inl ⟨by rfl, ?_⟩) hHeld ?_ ?_
 rotate_left
 ·rintro w' ⟨s0, s1, s2, s3, s4, s5⟩
  go_simp
  with_reducible rfl
 rotate_left
 ·simp only [Act.put, List.setIfInBounds_toArray, List.set_cons_zero, List.set_cons_succ, i64_w, i32_w]
  rfl
 refine take_ (i := 8) (N := some 13) (v := ?_) (a' := ?_) #[true, true, true, true, false, true, true, true, true, false, true, false, true, false, false, false, false, false] rfl rfl (take_ofW HT_.out HW_.out (by kernel_rfl)) (fun _ _ _ h => h) (Or.inl ⟨by rfl, ?_⟩) hHeld ?_ ?_
 rotate_left
 ·rintro w' ⟨s0, s1, s2, s3, s4, s5⟩
  go_simp
  with_reducible rfl
 rotate_left
 ·simp only [Act.put, List.setIfInBounds_toArray, List.set_cons_zero, List.set_cons_succ, i64_w, i32_w]
  rfl
 refine take_ (i := 11) (N := some 16) (v := ?_) (a' := ?_) #[true, true, true, true, false, true, true, true, true, false, true, true, true, false, false, false, false, false] rfl rfl (take_ofW HT_.out HW_.out (by kernel_rfl)) (fun _ _ _ h => h) (Or.inl ⟨by rfl, ?_⟩) hHeld ?_ ?_
 rotate_left
 ·rintro w' ⟨s0, s1, s2, s3, s4, s5⟩
  go_simp
  with_reducible rfl
 rotate_left
 ·simp only [Act.put, List.setIfInBounds_toArray, List.set_cons_zero, List.set_cons_succ, i64_w, i32_w]
  rfl
 refine take_ (i := 13) (N := some 18) (v := ?_) (a' := ?_) #[true, true, true, true, false, true, true, true, true, false, true, true, true, true, false, false, false, false] rfl rfl (take_ofW HT_.out HW_.out (by kernel_rfl)) (fun _ _ _ h => h) (Or.inl ⟨by rfl, ?_⟩) hHeld ?_ ?_
 rotate_left
 ·rintro w' ⟨s0, s1, s2, s3, s4, s5⟩
  go_simp
  with_reducible rfl
 rotate_left
 ·simp only [Act.put, List.setIfInBounds_toArray, List.set_cons_zero, List.set_cons_succ, i64_w, i32_w]
  rfl
 refine one_ (i := 4) (N := some 9) #[true, true, true, true, true, true, true, true, true, false, true, true, true, true, false, false, false, false] rfl rfl (one_of HT_.out (by kernel_rfl)) (by decide) (fun K hK => ?_)
 refine goes_ Tryd.func34 (by kernel_rfl) rfl #[.int .i64 a0_0, .int .i64 a1_0] (by rfl) rfl rfl (by (try simp only [List.map_toArray, List.map_cons, List.map_nil]); first | done | rfl | (simp only [List.length_drop, List.length_take]; rfl)) ?_
 with_reducible refine (cmp_Compare_int.calls a0_0 a1_0 t151 _ A3.out).mono ?_
 rintro e w' ⟨rfl, ⟨nd, rfl⟩⟩
 refine ⟨_, rfl, ?_⟩
 refine hK.out _ _ ⟨(blk_cell BK149.out 0).trans rfl, (blk_cell BK149.out 1).trans rfl, (blk_cell BK149.out 2).trans rfl, (blk_cell BK150.out 0).trans rfl, (blk_cell BK150.out 1).trans rfl, (blk_cell BK150.out 2).trans rfl⟩ (fun hHeld => ?_)
 clear hK K
 refine norm_ (a' := ?_) ?_ ?_
 rotate_left
 ·show Act.put _ (some 9) _ = _
  simp only [Act.put, List.setIfInBounds_toArray, List.set_cons_zero, List.set_cons_succ, i64_w, i32_w]
  rfl
 refine one_ (i := 9) (N := some 14) #[true, true, true, true, true, true, true, true, true, true, true, true, true, true, false, false, false, false] rfl rfl (one_of HT_.out (by kernel_rfl)) (by decide) (fun K hK => ?_)
 refine goes_ Tryd.func34 (by kernel_rfl) rfl #[.int .i64 a0_1, .int .i64 a1_1] (by rfl) rfl rfl (by (try simp only [List.map_toArray, List.map_cons, List.map_nil]); first | done | rfl | (simp only [List.length_drop, List.length_take]; rfl)) ?_
 with_reducible refine (cmp_Compare_int.calls a0_1 a1_1 t152 _ A4.out).mono ?_
 rintro e w' ⟨rfl, ⟨nd, rfl⟩⟩
 refine ⟨_, rfl, ?_⟩
 refine hK.out _ _ ⟨(blk_cell BK149.out 0).trans rfl, (blk_cell BK149.out 1).trans rfl, (blk_cell BK149.out 2).trans rfl, (blk_cell BK150.out 0).trans rfl, (blk_cell BK150.out 1).trans rfl, (blk_cell BK150.out 2).trans rfl⟩ (fun hHeld => ?_)
 clear hK K
 refine norm_ (a' := ?_) ?_ ?_
 rotate_left
 ·show Act.put _ (some 14) _ = _
  simp only [Act.put, List.setIfInBounds_toArray, List.set_cons_zero, List.set_cons_succ, i64_w, i32_w]
  rfl
 refine one_ (i := 14) (N := some 19) #[true, true, true, true, true, true, true, true, true, true, true, true, true, true, true, false, false, false] rfl rfl (one_of HT_.out (by kernel_rfl)) (by decide) (fun K hK => ?_)
 refine goes_ Tryd.func35 (by kernel_rfl) rfl #[.string a0_2, .string a1_2] (by rfl) rfl rfl (by (try simp only [List.map_toArray, List.map_cons, List.map_nil]); first | done | rfl | (simp only [List.length_drop, List.length_take]; rfl)) ?_
 with_reducible refine (cmp_Compare_string.calls a0_2 a1_2 t153 _ A5.out).mono ?_
 rintro e w' ⟨rfl, ⟨nd, rfl⟩⟩
 refine ⟨_, rfl, ?_⟩
 refine hK.out _ _ ⟨(blk_cell BK149.out 0).trans rfl, (blk_cell BK149.out 1).trans rfl, (blk_cell BK149.out 2).trans rfl, (blk_cell BK150.out 0).trans rfl, (blk_cell BK150.out 1).trans rfl, (blk_cell BK150.out 2).trans rfl⟩ (fun hHeld => ?_)
 clear hK K
 refine norm_ (a' := ?_) ?_ ?_
 rotate_left
 ·show Act.put _ (some 19) _ = _
  simp only [Act.put, List.setIfInBounds_toArray, List.set_cons_zero, List.set_cons_succ, i64_w, i32_w]
  rfl
 refine one_ (i := 15) (N := some 20) #[true, true, true, true, true, true, true, true, true, true, true, true, true, true, true, true, false, false] rfl rfl (one_of HT_.out (by kernel_rfl)) (by decide) (fun K hK => ?_)
 refine R_lit_stepX (Kd.int .i64) _ 3 ?hg (N := 20) ?hd (xs := ([t151, t152, t153] : List Int)) (inner := [.int .i64 t151, .int .i64 t152, .int .i64 t153]) (ok := fun _ => True) (okp := fun _ => True) ?hr ?hp (fun _ hk => hk) trivial (Below.refl _ _) (Nat.le_refl _) (by simp) ?_; (case hd => rfl); (case hg => rfl); (case hr => first | (go_simp; done) | (go_simp; rfl)); (case hp => exact (Reps.one (show Kd.M (Kd.int .i64) _ _ _ t151 [.int .i64 t151] from rfl) (Reps.one (show Kd.M (Kd.int .i64) _ _ _ t152 [.int .i64 t152] from rfl) (Reps.one (show Kd.M (Kd.int .i64) _ _ _ t153 [.int .i64 t153] from rfl) (Reps.none _ _)))))
 intro v155 w10 ho11 hb hx_
 (first | rw [← Ny154.out] at ho11 | (simp only [Int.reduceToNat] at ho11; rw [← Ny154.out] at ho11))
 have n0_ := Aside0.mk (Kd.R_lower ho11 (GrewD.size (by repeat (first | (with_reducible first | exact HB.out | apply GrewD.alloc' | apply GrewD.drewN' | apply GrewD.drew) | exact HB.out))))
 have n1_ := Aside0.mk (blk_below (g := gb149) (o := .cells #[.int .i64 a0_0, .int .i64 a0_1, .string a0_2] 24 (0, 0)) (by (with_reducible repeat (first | refine blk_drewN ?_ _ | refine blk_drew ?_ | refine blk_alloc ?_ _)); exact BK149.out) hb)
 have n2_ := Aside0.mk (blk_below (g := gb150) (o := .cells #[.int .i64 a1_0, .int .i64 a1_1, .string a1_2] 24 (0, 0)) (by (with_reducible repeat (first | refine blk_drewN ?_ _ | refine blk_drew ?_ | refine blk_alloc ?_ _)); exact BK150.out) hb)
 have n3_ := Aside0.mk (GrewD.step (by repeat (first | (with_reducible first | exact HB.out | apply GrewD.alloc' | apply GrewD.drewN' | apply GrewD.drew) | exact HB.out)) hx_)
 clear BK149
 clear BK150
 clear HB
 have HO156 := n0_
 have BK149 := n1_
 have BK150 := n2_
 have HB := n3_
 clear n0_ n1_ n2_ n3_
 clear hb hx_ ho11
 obtain ⟨Ao12, co12, eo12⟩ := Kd.R_slice HO156.out
 (first | subst eo12 | (injection eo12 with f1_ f2_ f3_; have f4_ := f1_.symm; have f5_ := f3_.symm; clear f1_ f2_ f3_; subst f4_; subst f5_))
 refine hK.out _ _ ⟨(blk_cell BK149.out 0).trans rfl, (blk_cell BK149.out 1).trans rfl, (blk_cell BK149.out 2).trans rfl, (blk_cell BK150.out 0).trans rfl, (blk_cell BK150.out 1).trans rfl, (blk_cell BK150.out 2).trans rfl⟩ (fun hHeld => ?_)
 clear hK K
 refine norm_ (a' := ?_) ?_ ?_
 rotate_left
 ·show Act.put _ (some 20) _ = _
  simp only [Act.put, List.setIfInBounds_toArray, List.set_cons_zero, List.set_cons_succ, i64_w, i32_w]
  rfl
 refine one_ (i := 16) (N := some 21) #[true, true, true, true, true, true, true, true, true, true, true, true, true, true, true, true, true, false] rfl rfl (one_of HT_.out (by kernel_rfl)) (by decide) (fun K hK => ?_)
 refine goes_ Tryd.func33 (by kernel_rfl) rfl #[.slice Ao12 y154.length co12] (by rfl) rfl rfl (by (try simp only [List.map_toArray, List.map_cons, List.map_nil]); first | done | rfl | (simp only [List.length_drop, List.length_take]; rfl)) ?_
 with_reducible refine (cmp_Or_int.calls k _ _ y154 t157 _ ?side1 ?side2 A6.out).mono ?_
 (case side1 => repeat (first | exact (Kd.R_reads' HO156.out).2.2 | (with_reducible refine Kd.C_alloc ?_ _) | (with_reducible refine Kd.C_drewN ?_ _) | (with_reducible refine Kd.C_drew ?_)))
 (case side2 => exact (Kd.R_reads' HO156.out).2.1)
 rintro e w' ⟨rfl, ⟨nd, rfl⟩⟩
 refine ⟨_, rfl, ?_⟩
 refine hK.out _ _ ⟨(blk_cell BK149.out 0).trans rfl, (blk_cell BK149.out 1).trans rfl, (blk_cell BK149.out 2).trans rfl, (blk_cell BK150.out 0).trans rfl, (blk_cell BK150.out 1).trans rfl, (blk_cell BK150.out 2).trans rfl⟩ (fun hHeld => ?_)
 clear hK K
 refine norm_ (a' := ?_) ?_ ?_
 rotate_left
 ·show Act.put _ (some 21) _ = _
  simp only [Act.put, List.setIfInBounds_toArray, List.set_cons_zero, List.set_cons_succ, i64_w, i32_w]
  rfl
 refine pure_ (i := 17) (N := some 4) (v := ?_) (a' := ?_) #[true, true, true, true, true, true, true, true, true, true, true, true, true, true, true, true, true, true] rfl rfl (any_of HT_.out (by kernel_rfl)) (fun _ _ _ h => h) (Or.inl ⟨by rfl, ?_⟩) ?_ ?_
 rotate_left
 ·intro w'
  go_simp
  with_reducible rfl
 rotate_left
 ·simp only [Act.put, List.setIfInBounds_toArray, List.set_cons_zero, List.set_cons_succ, i64_w, i32_w]
  rfl
 refine done_ (done_of HT_.out (by kernel_rfl)) ?_
 try go_wp2
 go_ret
 exact ⟨by first | rfl | (simp [errW_none, errW_some] <;> rfl) | (simp [*, errW_none, errW_some] <;> rfl), by repeat (first | (with_reducible first | exact HB.out | apply GrewD.alloc' | apply GrewD.drewN' | apply GrewD.drew) | exact HB.out)⟩
end Go.Proofs.YtgidnkmlnccaiaaDoor.Q
/- The order of nodes as node.Compare tells it. -/
namespace Go.Proofs.YtgidnkmlnccaiaaDoor.Q
open Go.RowKit Go.Proofs.YtgidnkmlnccaiaaDoorW.PrintWords Go.Proofs.YtgidnkmlnccaiaaDoorW.PrintLast Go.Proofs.YtgidnkmlnccaiaaDoorW.PrintMore
set_option linter.unusedVariables false
set_option linter.unusedSimpArgs false
open Go.Sort (SWO)
def cmpN (a b : Nd) : Int := if ltN a b = true then -1 else if ltN b a = true then 1 else 0
def cmpI (a b : Int) : Int := if a < b then -1 else if b < a then 1 else 0
theorem cmpI_f (a b : Int) : cmp_Compare_int.f a b = some (cmpI a b) := by
 have h1 : ∀ x : Int, cmp_isNaN_int.f x = some false := fun x => by simp [cmp_isNaN_int.f]
 unfold cmp_Compare_int.f cmpI
 rw [h1, h1]
 simp only [Option.bind_some]
 rw [if_neg (by decide), if_neg (by decide)]
 by_cases h : a < b
 ·rw [if_pos h, if_pos h]
 ·rw [if_neg h, if_neg h]
  by_cases h2 : b < a
  ·rw [if_pos h2, if_pos (show a > b from h2)]
  ·rw [if_neg h2, if_neg (show ¬ a > b from h2)]
def orI (l : List Int) : Int := (l.find? (fun x => decide (x ≠ 0))).getD 0
theorem orI_f (a b c : Int) : cmp_Or_int.f 4 [a, b, c] = some (orI [a, b, c]) := by
 unfold cmp_Or_int.f orI
 have w1 : wrap64 (0 + 1) = 1 := by kernel_rfl
 have w2 : wrap64 (1 + 1) = 2 := by kernel_rfl
 have w3 : wrap64 (2 + 1) = 3 := by kernel_rfl
 have r0 : rd [a, b, c] 0 = a := rfl
 have r1 : rd [a, b, c] 1 = b := rfl
 have r2 : rd [a, b, c] 2 = c := rfl
 simp only [cmp_Or_int.l0, List.length_cons, List.length_nil, w1, w2, w3, r0, r1, r2]
 by_cases ha : a = 0 <;> by_cases hb : b = 0 <;> by_cases hc : c = 0 <;> simp [ha, hb, hc, List.find?]
theorem orI_cons (x : Int) (l : List Int) : orI (x :: l) = if x = 0 then orI l else x := by
 unfold orI
 rw [List.find?_cons]
 by_cases h : x = 0 <;> simp [h]
theorem cmpN_eq (a b : Nd) : orI [cmpI a.f0 b.f0, cmpI a.f1 b.f1, cmpS a.f2.toList b.f2.toList] = cmpN a b := by
 rw [orI_cons, orI_cons, orI_cons]
 unfold cmpN ltN cmpI cmpS
 rcases Int.lt_trichotomy a.f0 b.f0 with h | h | h
 ·have h2 : ¬ b.f0 < a.f0 := by omega
  have h3 : ¬ a.f0 = b.f0 := by omega
  simp [h, h3]
 ·rw [if_neg (show ¬ a.f0 < b.f0 by omega), if_neg (show ¬ b.f0 < a.f0 by omega), if_pos rfl, if_pos h, if_pos h.symm]
  rcases Int.lt_trichotomy a.f1 b.f1 with k | k | k
  ·have h3 : ¬ a.f1 = b.f1 := by omega
   simp [k, h3]
  ·rw [if_neg (show ¬ a.f1 < b.f1 by omega), if_neg (show ¬ b.f1 < a.f1 by omega), if_pos rfl, if_pos k, if_pos k.symm]
   cases h1 : Op.bytesLess a.f2.toList b.f2.toList <;> cases h2 : Op.bytesLess b.f2.toList a.f2.toList <;> simp [orI]
  ·have h2 : ¬ a.f1 < b.f1 := by omega
   have h3 : ¬ a.f1 = b.f1 := by omega
   have h4 : ¬ b.f1 = a.f1 := by omega
   simp [k, h2, h3, h4]
 ·have h2 : ¬ a.f0 < b.f0 := by omega
  have h3 : ¬ a.f0 = b.f0 := by omega
  have h4 : ¬ b.f0 = a.f0 := by omega
  simp [h, h2, h3, h4]
theorem cmpN_f (a b : Nd) : node_Compare.f 4 a.f0 a.f1 a.f2 b.f0 b.f1 b.f2 = some (cmpN a b) := by
 unfold node_Compare.f cmp_Compare_string.f
 rw [cmpI_f, cmpI_f]
 simp only [Option.bind_some]
 rw [orI_f, cmpN_eq]; rfl
theorem cmpN_lt (a b : Nd) : decide (cmpN a b < 0) = ltN a b := by
 unfold cmpN
 cases h : ltN a b
 ·rw [if_neg (by decide)]
  cases ltN b a <;> decide
 ·rw [if_pos rfl]; rfl
theorem ltN_swo : SWO ltN where
 irrefl := ltN_irrefl
 trans x y z h1 h2 := ltN_trans h1 h2
 ntrans x y z h1 h2 := by
  cases h : ltN x z
  ·rfl
  ·exfalso
   cases h3 : ltN y x
   ·rw [ltN_total h1 h3] at h; rw [h2] at h; cases h
   ·have := ltN_trans h3 h
    rw [h2] at this; cases this
end Go.Proofs.YtgidnkmlnccaiaaDoor.Q
-- (laid by the kit's shelf_lay_g and lay-plain at this seat's dump)
/- slices.SortFunc of nodes: the library's structure at this program. -/
namespace Go.Proofs
open Go.Shelf
def Tryd.sortNd_ren : Go.Shelf.Ren := ⟨fun | 6 => 54 | 15 => 67 | 14 => 66 | 28 => 89 | 29 => 90 | 20 => 81 | 21 => 82 | 22 => 83 | 23 => 84 | 24 => 85 | 25 => 86 | 26 => 87 | 27 => 88 | 46 => 96 | 47 => 97 | 48 => 98 | 49 => 99 | 50 => 100 | 57 => 103 | n => n, fun | 22 => 45 | 24 => 24 | 25 => 36 | 3 => 3 | 39 => 107 | 0 => 0 | 53 => 130 | 55 => 114 | 4 => 4 | 46 => 124 | 45 => 123 | 50 => 65 | 5 => 5 | 9 => 9 | 66 => 136 | 70 => 140 | 76 => 142 | 77 => 143 | n => n, fun | n => n⟩
theorem Tryd.sortNd : Go.Proofs.SlLaysF0.n6 Tryd.prog Tryd.sortNd_ren := {
 mixed := by kernel_rfl
 f6 := ⟨Tryd.f54.name, by decide, Tryd.func54.trans (congrArg some (by kernel_rfl))⟩
 f14 := ⟨Tryd.f66.name, by decide, Tryd.func66.trans (congrArg some (by kernel_rfl))⟩
 f15 := Tryd.func67.trans (congrArg some (by kernel_rfl))
 f20 := ⟨Tryd.f81.name, by decide, Tryd.func81.trans (congrArg some (by kernel_rfl))⟩
 f21 := ⟨Tryd.f82.name, by decide, Tryd.func82.trans (congrArg some (by kernel_rfl))⟩
 f22 := ⟨Tryd.f83.name, by decide, Tryd.func83.trans (congrArg some (by kernel_rfl))⟩
 f23 := ⟨Tryd.f84.name, by decide, Tryd.func84.trans (congrArg some (by kernel_rfl))⟩
 f24 := ⟨Tryd.f85.name, by decide, Tryd.func85.trans (congrArg some (by kernel_rfl))⟩
 f25 := ⟨Tryd.f86.name, by decide, Tryd.func86.trans (congrArg some (by kernel_rfl))⟩
 f26 := ⟨Tryd.f87.name, by decide, Tryd.func87.trans (congrArg some (by kernel_rfl))⟩
 f27 := ⟨Tryd.f88.name, by decide, Tryd.func88.trans (congrArg some (by kernel_rfl))⟩
 f28 := Tryd.func89.trans (congrArg some (by kernel_rfl))
 f29 := Tryd.func90.trans (congrArg some (by kernel_rfl))
 f46 := ⟨Tryd.f96.name, by decide, Tryd.func96.trans (congrArg some (by kernel_rfl))⟩
 f47 := Tryd.func97.trans (congrArg some (by kernel_rfl))
 f48 := Tryd.func98.trans (congrArg some (by kernel_rfl))
 f49 := ⟨Tryd.f99.name, by decide, Tryd.func99.trans (congrArg some (by kernel_rfl))⟩
 f50 := ⟨Tryd.f100.name, by decide, Tryd.func100.trans (congrArg some (by kernel_rfl))⟩
 f57 := ⟨Tryd.f103.name, by decide, Tryd.func103.trans (congrArg some (by kernel_rfl))⟩
 t0 := Tryd.underlying0
 a0 := Tryd.isAgg0
 z0 := Tryd.sizeOf0
 v0 := Tryd.zeroValue0
 t3 := Tryd.underlying3
 a3 := Tryd.isAgg3
 z3 := Tryd.sizeOf3
 v3 := Tryd.zeroValue3
 t4 := Tryd.underlying4
 a4 := Tryd.isAgg4
 z4 := Tryd.sizeOf4
 v4 := Tryd.zeroValue4
 t5 := Tryd.underlying5
 a5 := Tryd.isAgg5
 z5 := Tryd.sizeOf5
 v5 := Tryd.zeroValue5
 t9 := Tryd.underlying9
 a9 := Tryd.isAgg9
 z9 := Tryd.sizeOf9
 v9 := Tryd.zeroValue9
 t22 := Tryd.underlying45
 a22 := Tryd.isAgg45
 z22 := Tryd.sizeOf45
 v22 := Tryd.zeroValue45
 t25 := Tryd.underlying36
 a25 := Tryd.isAgg36
 z25 := Tryd.sizeOf36
 v25 := Tryd.zeroValue36
 t39 := Tryd.underlying107
 a39 := Tryd.isAgg107
 z39 := Tryd.sizeOf107
 v39 := Tryd.zeroValue107
 t45 := Tryd.underlying123
 a45 := Tryd.isAgg123
 z45 := Tryd.sizeOf123
 v45 := Tryd.zeroValue123
 t46 := Tryd.underlying124
 a46 := Tryd.isAgg124
 z46 := Tryd.sizeOf124
 v46 := Tryd.zeroValue124
 t50 := Tryd.underlying65
 a50 := Tryd.isAgg65
 z50 := Tryd.sizeOf65
 v50 := Tryd.zeroValue65
 t53 := Tryd.underlying130
 a53 := Tryd.isAgg130
 z53 := Tryd.sizeOf130
 v53 := Tryd.zeroValue130
 t55 := Tryd.underlying114
 a55 := Tryd.isAgg114
 z55 := Tryd.sizeOf114
 v55 := Tryd.zeroValue114
 t66 := Tryd.underlying136
 a66 := Tryd.isAgg136
 z66 := Tryd.sizeOf136
 v66 := Tryd.zeroValue136
 t70 := Tryd.underlying140
 a70 := Tryd.isAgg140
 z70 := Tryd.sizeOf140
 v70 := Tryd.zeroValue140
 t76 := Tryd.underlying142
 a76 := Tryd.isAgg142
 z76 := Tryd.sizeOf142
 v76 := Tryd.zeroValue142
 t77 := Tryd.underlying143
 a77 := Tryd.isAgg143
 z77 := Tryd.sizeOf143
 v77 := Tryd.zeroValue143 }
end Go.Proofs
/- slices.SortFunc, SortedFunc, Set.List: by hand. -/
namespace Go.Proofs.YtgidnkmlnccaiaaDoor.Q
open Go.RowKit Go.Proofs.YtgidnkmlnccaiaaDoorW.PrintWords Go.Proofs.YtgidnkmlnccaiaaDoorW.PrintLast Go.Proofs.YtgidnkmlnccaiaaDoorW.PrintMore
set_option linter.unusedVariables false
set_option linter.unusedSimpArgs false
open Go.Shelf Go.Lib Go.Sort
abbrev fSo : Nat := 54
abbrev fCm : Nat := 12
theorem ltOf_cmpN : ltOf cmpN = ltN := by
 funext x y
 exact cmpN_lt x y
theorem cmpLaysNd (blk off size : Nat) (w : World) : CmpLays Tryd.prog fCm #[] ndC 3 cmpN blk off size w := fun _ _ _ _ x y =>
 (node_Compare.grows 4 x.f0 x.f1 x.f2 y.f0 y.f1 y.f2 (cmpN x y) _ (cmpN_f x y)).mono fun _ _ h => ⟨h.1, h.2.out⟩
theorem sort_Nd (v : Value) (n base : Nat) (ss : List Nd) (w : World) (h : w.ownsRow base 24 3 v n (ndCs ss)) (hn : ss.length = n) (hlen : n ≤ 1000000) :
  Calls Tryd.prog fSo #[v, .func (.func fCm) #[] #[]] w fun e w' => e = .returned (.tuple #[]) ∧ ∃ ss' : List Nd, ss'.Perm ss ∧ ss'.Pairwise (fun a b => ltN b a = false) ∧ w'.ownsRow base 24 3 v n (ndCs ss') ∧ w.grownBy w' v.ownBlock := by
 have eg : ∀ args w, (callFunc fCm args).run Tryd.prog w = .ok (.enter fCm args) w := enters_of Tryd.func12 (by kernel_rfl) rfl
 rcases Nat.eq_zero_or_pos n with h0 | hpos
 ·subst h0
  have he : ss = [] := List.length_eq_zero_iff.mp hn
  subst he
  obtain ⟨A, c, rfl⟩ := own_slice h
  have hcon := AnyF.slices_SortFunc_none Tryd.sortNd A c (.func (.func fCm) #[] #[]) w
  change Calls Tryd.prog fSo _ _ _ at hcon
  refine hcon.mono ?_
  rintro e w' ⟨rfl, rfl⟩
  exact ⟨rfl, [], List.Perm.refl _, List.Pairwise.nil, h, ⟨rfl, rfl, rfl, Nat.le_refl _, fun _ _ _ => rfl⟩⟩
 ·obtain ⟨g, cap, rfl, hb, hg, hc, hH⟩ := holds_of_own h hn hpos
  have hs : ss.toArray.size = n := by rw [List.size_toArray]; exact hn
  have hcon := AnyQ.slices_SortFunc Tryd.sortNd 3 Tryd.isAgg24 Tryd.sizeOf24 ndC (fun _ => rfl) (fun x v hv => by simp [ndC] at hv; rcases hv with rfl | rfl | rfl <;> rfl) cmpN (by rw [ltOf_cmpN]; exact ltN_swo) fCm #[] g 0 cap ss.toArray w eg (cmpLaysNd g 0 ss.toArray.size w) hH hg (by rw [hs]; omega)
  change Calls Tryd.prog fSo _ _ _ at hcon
  rw [hs] at hcon
  refine hcon.mono ?_
  rintro e w' ⟨rfl, d', q, os, hp, hso, rfl⟩
  have hd : d'.size = n := by rw [hp.1, hs]
  obtain ⟨h1, h2⟩ := own_sorted (q := q) (os := os) h hd hpos
  refine ⟨rfl, d'.toList, ?_, ?_, h1, h2⟩
  ·have := hp.2.2
   rw [show d'.extract 0 n = d' by rw [← hd]; exact Array.extract_size, show ss.toArray.extract 0 n = ss.toArray by rw [← hs]; exact Array.extract_size] at this
   simpa using this
  ·rw [List.pairwise_iff_getElem]
   intro i j hi hj hij
   have hj' : j < n := by rw [Array.length_toList, hd] at hj; exact hj
   have := hso i j (Nat.zero_le _) hij hj'
   rw [ltOf_cmpN, getElem!_pos d' j (by omega), getElem!_pos d' i (by omega)] at this
   simpa using this
theorem up_of_sorted {l : List Nd} (h : l.Pairwise (fun a b => ltN b a = false)) (hn : l.Nodup) : Up l := by
 refine (List.pairwise_and_iff.mpr ⟨h, hn⟩).imp ?_
 rintro a b ⟨h1, h2⟩
 cases h3 : ltN a b
 ·exact absurd (ltN_total h3 h1) h2
 ·rfl
theorem reps_nd (w : World) (base : Nat) (ok : Nat → Prop) (l : List Nd) : Reps (k24.M w base ok) k24.sz l (ndCs l) := by
 have : ∀ (l acc : List Nd), Reps (k24.M w base ok) k24.sz acc (ndCs acc) → Reps (k24.M w base ok) k24.sz (acc ++ l) (ndCs (acc ++ l)) := by
  intro l
  induction l with
  | nil => intro acc h; rw [List.append_nil]; exact h
  | cons x l ih =>
   intro acc h
   have h2 := ih (acc ++ [x]) (by rw [ndCs_snoc]; exact Reps.snoc h (k24_mkM _ _ _ x) rfl)
   rw [List.append_assoc] at h2
   exact h2
 exact this l [] (Reps.none _ _)
theorem R_of_nd {w : World} {base : Nat} {v : Value} {l : List Nd} (h : w.ownsRow base 24 3 v l.length (ndCs l)) : k24.R 24 w base (fun _ => True) v l :=
 ⟨fun _ _ => trivial, ndCs l, h, reps_nd _ _ _ _⟩
set_option maxHeartbeats 2000000 in
theorem sorted_Nd (lb : Array Value) (r : List Nd) (w : World) (hseq : SeqGives Fence.wide (4 - 1 - 1) Tryd.prog kK1 lb ndV (fun ss => ss.Perm r) r.length w) (hup : Up r) (hlen : r.length ≤ 1000000) :
  Calls Tryd.prog 40 #[.func (.func kK1) #[] lb, .func (.func fCm) #[] #[]] w fun e w' => ∃ v, e = .returned v ∧ w'.ownsRow w.heap.size 24 3 v r.length (ndCs r) ∧ Below w.heap.size w w' := by
 have HC := Aside0.mk (callsIn_wide.1 (collect_in Fence.wide 4 trivial trivial rfl (by decide) kK1 lb trivial (enters_of Tryd.func55 (by kernel_rfl) rfl) (fun ss => ss.Perm r) r.length (by unfold maxLen; omega) (by omega) w hseq))
 have HUP := Aside0.mk hup; have HL := Aside0.mk hlen
 clear hseq hup hlen
 go_enter Tryd.func40, Tryd.ntmps40
 go_wp2_with fail
 refine HC.out.mono ?_
 rintro e w1 ⟨v, ss, rfl, hp, hown, hb⟩
 have HP := Aside0.mk hp; have HO := Aside0.mk hown; have HB := Aside0.mk hb
 clear hp hown hb HC
 go_wp2_with fail
 refine (sort_Nd v ss.length w.heap.size ss w1 HO.out rfl (by rw [HP.out.length_eq]; exact HL.out)).mono ?_
 rintro e w2 ⟨rfl, ss', hp', hso, hown, hg⟩
 have he : ss' = r := up_ext (up_of_sorted hso ((hp'.trans HP.out).nodup_iff.mpr HUP.out.nodup)) HUP.out (fun x => (hp'.trans HP.out).mem_iff)
 subst he
 have HO2 : Aside0 (w2.ownsRow w.heap.size 24 3 v ss'.length (ndCs ss')) := ⟨by rw [HP.out.length_eq] at hown; exact hown⟩
 have HB2 : Aside0 (Below w.heap.size w w2) := ⟨HB.out.grown hg HB.out.size (fun k hk => own_base HO.out k hk)⟩
 clear hp' hso hown hg
 go_wp2
 go_ret
 exact ⟨v, rfl, HO2.out, HB2.out⟩
set_option maxHeartbeats 2000000 in
theorem set_List (m : Option Nat) (r : List Nd) (w : World) (h : SetO w m r) (hlen : r.length ≤ 1000000) :
  Calls Tryd.prog 27 #[.agg #[.map m]] w fun e w' => ∃ v, e = .returned v ∧ k24.R 24 w' w.heap.size (fun _ => True) v r ∧ Below w.heap.size w w' := by
 have HB := Aside0.mk (below_alloc (below_alloc (Below.refl w.heap.size w) (.cells #[.map m] 50)) (.cells #[.map m] tM))
 have HM := Aside0.mk ((h.alloc (.cells #[.map m] 50)).alloc (.cells #[.map m] tM))
 have HK := Aside0.mk (callsIn_wide.1 (keys_in Fence.wide 4 trivial rfl m (w.alloc (.cells #[.map m] 50))))
 have HT : Aside0 (((w.alloc (.cells #[.map m] 50)).alloc (.cells #[.map m] tM)).heap[w.heap.size + 1]? = some (.cells #[.map m] tM (0, 0))) := ⟨by
  have := blk_new (w.alloc (.cells #[.map m] 50)) (.cells #[.map m] tM)
  rw [World.size_alloc] at this
  exact this⟩
 have HSZ : Aside0 (((w.alloc (.cells #[.map m] 50)).alloc (.cells #[.map m] tM)).heap.size = w.heap.size + 1 + 1) := ⟨by rw [World.size_alloc, World.size_alloc]⟩
 have HUP := Aside0.mk h.up
 clear h
 go_enter Tryd.func27, Tryd.ntmps27
 go_wp2_with fail
 refine HK.out.mono ?_
 rintro e w2 ⟨rfl, rfl⟩
 clear HK
 rw [World.size_alloc]
 generalize (w.alloc (.cells #[.map m] 50)).alloc (.cells #[.map m] tM) = w1 at HB HM HT HSZ ⊢
 have hseq := keys_gives Fence.wide (4 - 1 - 1) trivial rfl (by decide) (w.heap.size + 1) m r w1 (by rw [HSZ.out]; omega) (bk1 HT.out).1 HM.out
 have HC := Aside0.mk (sorted_Nd _ r w1 hseq HUP.out hlen)
 clear hseq
 go_wp2_with fail
 refine HC.out.mono ?_
 rintro e w2 ⟨v, rfl, hown, hb⟩
 have HR : Aside0 (k24.R 24 w2 w.heap.size (fun _ => True) v r) := ⟨R_of_nd (own_weaken hown (by rw [HSZ.out]; omega))⟩
 have HB2 : Aside0 (Below w.heap.size w w2) := ⟨below_step HB.out hb⟩
 clear hown hb HC
 go_wp2
 go_ret
 exact ⟨v, rfl, HR.out, HB2.out⟩
end Go.Proofs.YtgidnkmlnccaiaaDoor.Q
/- From what the row lists to what the calls read of the package-level variables: by hand. -/
namespace Go.Proofs.YtgidnkmlnccaiaaDoor.Q
open Go.RowKit Go.Proofs.YtgidnkmlnccaiaaDoorW.PrintWords Go.Proofs.YtgidnkmlnccaiaaDoorW.PrintLast Go.Proofs.YtgidnkmlnccaiaaDoorW.PrintMore
set_option linter.unusedVariables false
set_option linter.unusedSimpArgs false
theorem gPow : Tryd.prog.globalNamed "internal/strconv.uint64pow10" = some 0 := by kernel_rfl
theorem gPowType : (Tryd.prog.globals[0]?).map (·.type) = some 134 := by kernel_rfl
theorem cellsU64 : Tryd.prog.cellsOf 114 = 1 := by kernel_rfl
theorem cellsPow : Tryd.prog.cellsOf 134 = 20 := by kernel_rfl
theorem powData : (Rows.laid_internal_strconv_uint64pow10 : DataW Unit) = Lib.tabData .u64 Lib.pow10Tab := by kernel_rfl
def listedG : List (String × DataW Unit) := [("math/bits.deBruijn32tab", Rows.laid_math_bits_deBruijn32tab), ("math/bits.deBruijn64tab", Rows.laid_math_bits_deBruijn64tab), ("internal/strconv.uint64pow10", Rows.laid_internal_strconv_uint64pow10)]
theorem glob_of_laid {W : World} (h : laidMetH Tryd.prog listedG W) : Glob W := by
 rw [MakeChecks.laidMetH_plain _ _ _ (by kernel_rfl)] at h
 have h2 := h.tail.tail
 rw [powData] at h2
 exact Lib.tabIs_of_head gPow gPowType Tryd.underlying134 Tryd.underlying114 cellsU64 cellsPow h2
end Go.Proofs.YtgidnkmlnccaiaaDoor.Q
