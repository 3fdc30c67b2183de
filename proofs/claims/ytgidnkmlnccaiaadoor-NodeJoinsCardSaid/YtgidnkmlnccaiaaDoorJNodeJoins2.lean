/- What the row of NodeJoins rests on, part 2: contracts of the functions that it reaches, and the plain law. -/
import Derived.Test.YtgidnkmlnccaiaaDoorJNodeJoins1
/- The law NodeJoins: by hand; its drawn regions are written by wip/tool/genNJ.py. -/
namespace Go.Proofs.YtgidnkmlnccaiaaDoor.Q
open Go.RowKit Go.Proofs.YtgidnkmlnccaiaaDoorW.PrintWords Go.Proofs.YtgidnkmlnccaiaaDoorW.PrintLast Go.Proofs.YtgidnkmlnccaiaaDoorW.PrintMore
set_option linter.unusedVariables false
set_option linter.unusedSimpArgs false
noncomputable def truantlaw18_NodeJoins.f (k : Nat) (l0 l1 l2 : List S24) (a3_0 a3_1 : Int) (a3_2 : ByteArray) : Option (Bool) :=
 if decB ((∀ x ∈ l0, ndW x) ∧ (∀ x ∈ l1, ndW x) ∧ (∀ x ∈ l2, ndW x) ∧ ndW ⟨a3_0, a3_1, a3_2⟩) = true then some true else none
theorem within_p (p : Bool) (m n : Option Nat) (r s : List Nd) (w : World) (h : SetO w m r) (h2 : SetO w n s) (hp : decB (∀ x ∈ r, x ∈ s) = p) :
  Calls Tryd.prog 23 #[.agg #[.map m], .agg #[.map n]] w fun e w' => e = .returned (.bool p) ∧ Below w.heap.size w w' :=
 (set_Within m n r s w h h2).mono fun e w' ⟨e1, hb⟩ => ⟨by rw [e1, hp], hb⟩
theorem has_q (q : Bool) (m : Option Nat) (r : List Nd) (x : Nd) (w : World) (h : SetO w m r) (hx : ndW x) (hq : decB (x ∈ r) = q) :
  Calls Tryd.prog 25 #[.agg #[.map m], .agg #[.int .i64 x.f0, .int .i64 x.f1, .string x.f2]] w fun e w' => e = .returned (.bool q) ∧ Below w.heap.size w w' :=
 (set_Has m r x w h hx).mono fun e w' ⟨e1, hb⟩ => ⟨by rw [e1, hq], hb⟩
theorem cmp_d (d : Int) (x y : Nd) (w : World) (h : cmpN x y = d) :
  Calls Tryd.prog 12 #[.agg #[.int .i64 x.f0, .int .i64 x.f1, .string x.f2], .agg #[.int .i64 y.f0, .int .i64 y.f1, .string y.f2]] w fun e w' => e = .returned (.int .i64 d) ∧ Below w.heap.size w w' :=
 node_Compare.calls 4 x.f0 x.f1 x.f2 y.f0 y.f1 y.f2 d w (by rw [← h]; exact cmpN_f x y)
theorem SetR.ne_cells {w : World} {b g : Nat} {r : List Nd} {cs : Array Value} {t : TypeId} {fr : Nat × Nat} (h : SetR w b r) (hg : w.heap[g]? = some (.cells cs t fr)) : b ≠ g := by
 obtain ⟨D, ⟨es, clock, hb, _⟩, _⟩ := h
 intro e
 rw [e, hg] at hb
 cases hb
def lawJoins.T8 : Bool × List (List Nat × List Nat) := (true, [([], []), ([], []), ([0, 1], [0, 1]), ([], []), ([2, 3, 2], [2, 3]), ([], []), ([5, 4, 4, 0, 1, 2, 3, 4, 5], [4, 5])])
def lawJoins.B8 : List Nat := [0, 0, 3, 0, 15, 0, 63]
theorem lawJoins.tab8 : rtab .any (opsOf Tryd.f6 8) = lawJoins.T8 := by kernel_rfl
theorem lawJoins.bits8 : waitsOk lawJoins.T8.2 lawJoins.B8 = true := by kernel_rfl
def lawJoins.T9 : Bool × List (List Nat × List Nat) := (true, [([], []), ([], []), ([], []), ([1, 2], [1, 2]), ([0, 3, 3], [0, 3]), ([], []), ([5, 4, 4, 0, 1, 2, 3, 4, 5], [4, 5])])
def lawJoins.B9 : List Nat := [0, 0, 0, 6, 15, 0, 63]
theorem lawJoins.tab9 : rtab .any (opsOf Tryd.f6 9) = lawJoins.T9 := by kernel_rfl
theorem lawJoins.bits9 : waitsOk lawJoins.T9.2 lawJoins.B9 = true := by kernel_rfl
def lawJoins.T10 : Bool × List (List Nat × List Nat) := (true, [([], []), ([], []), ([0, 1], [0, 1]), ([2], [2]), ([3, 2], [3]), ([4], [4]), ([4], [4]), ([5, 6, 4, 4], [4, 5, 6]), ([7, 4], [4, 7]), ([4, 8], [4, 8]), ([9, 7], [9]), ([10], [10]), ([10], [10]), ([11, 12, 10, 10], [10, 11, 12]), ([13, 10], [10, 13]), ([10, 14], [10, 14]), ([15, 13], [15]), ([16], [16]), ([17, 16, 16], [16, 17]), ([16], [16]), ([19, 18, 16], [16, 19]), ([18, 20, 16], [16, 18, 20]), ([16, 21], [16, 21]), ([22, 20], [22]), ([23], [23]), ([23], [23]), ([24, 25, 23, 23], [23, 24, 25]), ([23], [23]), ([23], [23]), ([27, 28, 26, 23], [23, 27, 28]), ([29, 29, 23], [23, 29]), ([30], [30]), ([30], [30]), ([31, 32, 30, 30], [30, 31, 32]), ([30, 33, 23], [23, 30, 33]), ([34, 33, 23], [23, 34]), ([35], [35]), ([35], [35]), ([36, 37, 35, 35], [35, 36, 37]), ([35, 38, 23], [23, 35, 38]), ([26, 39, 23], [23, 26, 39]), ([23, 40], [23, 40]), ([41, 38], [41]), ([42], [42]), ([42], [42]), ([43, 44, 42, 42], [42, 43, 44]), ([45, 45, 42], [42, 45]), ([42], [42]), ([47, 46, 42], [42, 47]), ([46, 48, 42], [42, 46, 48]), ([42, 49], [42, 49]), ([50, 48], [50]), ([51], [51]), ([51], [51]), ([52, 53, 51, 51], [51, 52, 53]), ([51], [51]), ([54, 55, 54, 51], [51, 54, 55]), ([56, 51], [51, 56]), ([51, 57], [51, 57])])
def lawJoins.B10 : List Nat := [0, 0, 3, 7, 15, 31, 31, 127, 255, 511, 1023, 2047, 2047, 8191, 16383, 32767, 65535, 131071, 262143, 131071, 1048575, 2097151, 4194303, 8388607, 16777215, 16777215, 67108863, 16777215, 16777215, 536870911, 1073741823, 2147483647, 2147483647, 8589934591, 17179869183, 34359738367, 68719476735, 68719476735, 274877906943, 549755813887, 1099511627775, 2199023255551, 4398046511103, 8796093022207, 8796093022207, 35184372088831, 70368744177663, 8796093022207, 281474976710655, 562949953421311, 1125899906842623, 2251799813685247, 4503599627370495, 4503599627370495, 18014398509481983, 4503599627370495, 72057594037927935, 144115188075855871, 288230376151711743]
theorem lawJoins.tab10 : rtab .any (opsOf Tryd.f6 10) = lawJoins.T10 := by kernel_rfl
theorem lawJoins.bits10 : waitsOk lawJoins.T10.2 lawJoins.B10 = true := by kernel_rfl
def lawJoins.T19 : Bool × List (List Nat × List Nat) := (true, [([], []), ([], []), ([0, 1], [0, 1]), ([2], [2]), ([], []), ([], []), ([4, 5], [4, 5]), ([6], [6]), ([3, 7], [3, 7]), ([8, 8, 0, 1, 2, 3, 4, 5, 6, 7, 8], [8])])
def lawJoins.B19 : List Nat := [0, 0, 3, 7, 0, 0, 48, 112, 255, 511]
theorem lawJoins.tab19 : rtab .any (opsOf Tryd.f6 19) = lawJoins.T19 := by kernel_rfl
theorem lawJoins.bits19 : waitsOk lawJoins.T19.2 lawJoins.B19 = true := by kernel_rfl
def lawJoins.T20 : Bool × List (List Nat × List Nat) := (true, [([], []), ([0], [0]), ([], []), ([], []), ([2, 3], [2, 3]), ([1, 4], [1, 4]), ([5], [5]), ([6], [6]), ([7, 6], [6, 7]), ([6], [6]), ([6], [6]), ([9, 10, 6], [6, 9, 10]), ([8, 11, 6], [6, 8, 11]), ([6, 12], [6, 12]), ([13, 6], [13]), ([14], [14]), ([14], [14]), ([14], [14]), ([16, 17, 14], [14, 16, 17]), ([18, 14], [14, 18]), ([14], [14]), ([14], [14]), ([20, 21, 14], [14, 20, 21]), ([22, 14], [14, 22]), ([19, 23, 14, 14], [14, 19, 23]), ([24, 14], [14, 24]), ([15, 25, 14], [14, 15, 25]), ([14, 26], [14, 26])])
def lawJoins.B20 : List Nat := [0, 1, 0, 0, 12, 31, 63, 127, 255, 127, 127, 1663, 4095, 8191, 16383, 32767, 32767, 32767, 229375, 491519, 32767, 32767, 3178495, 7372799, 16744447, 33521663, 67108863, 134217727]
theorem lawJoins.tab20 : rtab .any (opsOf Tryd.f6 20) = lawJoins.T20 := by kernel_rfl
theorem lawJoins.bits20 : waitsOk lawJoins.T20.2 lawJoins.B20 = true := by kernel_rfl
set_option maxRecDepth 100000 in
set_option maxHeartbeats 16000000 in
theorem truantlaw18_NodeJoins.calls (k : Nat) (A0 : Option Addr) (c0 : Nat) (l0 : List (S24)) (A1 : Option Addr) (c1 : Nat) (l1 : List (S24)) (A2 : Option Addr) (c2 : Nat) (l2 : List (S24)) (a3_0 : Int) (a3_1 : Int) (a3_2 : ByteArray) (r : Bool) (w : World) (hr0 : Kd.C k24 w A0 l0.length l0) (hc0 : l0.length ≤ c0) (hr1 : Kd.C k24 w A1 l1.length l1) (hc1 : l1.length ≤ c1) (hr2 : Kd.C k24 w A2 l2.length l2) (hc2 : l2.length ≤ c2) (h : truantlaw18_NodeJoins.f k l0 l1 l2 a3_0 a3_1 a3_2 = some r) (hG : Glob w := by first | assumption | (refine Glob.below (by assumption) ?_; repeat (first | with_reducible exact (Aside0.out (by assumption)) | (refine below_set ?_ (Aside0.out (by assumption))) | (with_reducible first | apply below_alloc | apply pw_below_drewN | apply below_drew1) | exact (Aside0.out (by assumption))))) :
  Calls Tryd.prog 6 #[.slice A0 l0.length c0, .slice A1 l1.length c1, .slice A2 l2.length c2, .agg #[.int .i64 a3_0, .int .i64 a3_1, .string a3_2]] w fun e w' => e = .returned (.bool r) ∧ Below w.heap.size w w' := by
 have hwf : ((∀ x ∈ l0, ndW x) ∧ (∀ x ∈ l1, ndW x) ∧ (∀ x ∈ l2, ndW x) ∧ ndW ⟨a3_0, a3_1, a3_2⟩) ∧ r = true := by
  unfold truantlaw18_NodeJoins.f at h
  by_cases hp : (∀ x ∈ l0, ndW x) ∧ (∀ x ∈ l1, ndW x) ∧ (∀ x ∈ l2, ndW x) ∧ ndW ⟨a3_0, a3_1, a3_2⟩
  ·rw [decB_true hp, if_pos rfl] at h; exact ⟨hp, (Option.some.inj h).symm⟩
  ·rw [decB_false hp, if_neg (by decide)] at h; cases h
 obtain ⟨⟨hw0, hw1, hw2, hwn⟩, rfl⟩ := hwf
 clear h
 obtain ⟨n0, hn0⟩ : ∃ z, z = a3_0 := ⟨_, rfl⟩
 obtain ⟨n1, hn1⟩ : ∃ z, z = a3_1 := ⟨_, rfl⟩
 obtain ⟨n2, hn2⟩ : ∃ z, z = a3_2 := ⟨_, rfl⟩
 rw [← hn0, ← hn1, ← hn2] at hwn ⊢
 clear hn0 hn1 hn2
 have hbx : Below w.heap.size w (w.alloc (.cells #[.int .i64 n0, .int .i64 n1, .string n2] 24)) := below_alloc (Below.refl _ _) _
 have HG := Aside0.mk (hG.below hbx)
 have HB := Aside0.mk hbx
 have HL0 := Aside0.mk (Kd.C_below hr0 hbx); have HL1 := Aside0.mk (Kd.C_below hr1 hbx); have HL2 := Aside0.mk (Kd.C_below hr2 hbx)
 have HC0 := Aside0.mk hc0; have HC1 := Aside0.mk hc1; have HC2 := Aside0.mk hc2; have HW0 := Aside0.mk hw0; have HW1 := Aside0.mk hw1; have HW2 := Aside0.mk hw2; have HWN := Aside0.mk hwn
 have H7 : Aside0 ((w.alloc (.cells #[.int .i64 n0, .int .i64 n1, .string n2] 24)).heap[w.heap.size]? = some (.cells #[.int .i64 n0, .int .i64 n1, .string n2] 24 (0, 0))) := ⟨blk_new _ _⟩
 clear hr0 hr1 hr2 hc0 hc1 hc2 hw0 hw1 hw2 hwn hG hbx
 go_enter Tryd.func6, Tryd.ntmps6
 go_upto_region 1 with (fail)
 generalize w.alloc (.cells #[.int .i64 n0, .int .i64 n1, .string n2] 24) = w1 at HG HB HL0 HL1 HL2 H7 ⊢
 obtain ⟨g7, hg7⟩ : ∃ g, g = w.heap.size := ⟨_, rfl⟩
 rw [← hg7] at H7 ⊢
 clear hg7
 go_wp2_with fail
 refine (truantlaw18_awake.calls true w1 rfl HG.out).mono ?_
 rintro e w2 ⟨rfl, hb⟩
 have HB2 := Aside0.mk (below_step HB.out hb); have HL02 := Aside0.mk (Kd.C_below HL0.out hb); have HL12 := Aside0.mk (Kd.C_below HL1.out hb); have HL22 := Aside0.mk (Kd.C_below HL2.out hb); have H72 := Aside0.mk (blk_below H7.out hb)
 clear hb HG HB HL0 HL1 HL2 H7
 by_cases q1 : (l0.length : Int) > 40
 ·have b1 : decide ((l0.length : Int) > 40) = true := decide_eq_true q1
  clear q1
  go_wp2
  go_ret
  exact ⟨rfl, HB2.out⟩
 have b1 : decide ((l0.length : Int) > 40) = false := decide_eq_false q1
 by_cases q2 : (l1.length : Int) > 40
 ·have b2 : decide ((l1.length : Int) > 40) = true := decide_eq_true q2
  clear q1 q2
  go_wp2
  go_ret
  exact ⟨rfl, HB2.out⟩
 have b2 : decide ((l1.length : Int) > 40) = false := decide_eq_false q2
 by_cases q3 : (l2.length : Int) > 40
 ·have b3 : decide ((l2.length : Int) > 40) = true := decide_eq_true q3
  clear q1 q2 q3
  go_wp2
  go_ret
  exact ⟨rfl, HB2.out⟩
 have b3 : decide ((l2.length : Int) > 40) = false := decide_eq_false q3
 have HM0 : Aside0 (l0.length ≤ 40) := ⟨by omega⟩
 have HM1 : Aside0 (l1.length ≤ 40) := ⟨by omega⟩
 have HM2 : Aside0 (l2.length ≤ 40) := ⟨by omega⟩
 obtain ⟨X, hX⟩ : ∃ z, z = ofL l0 := ⟨_, rfl⟩
 obtain ⟨Y, hY⟩ : ∃ z, z = ofL l1 := ⟨_, rfl⟩
 obtain ⟨Z, hZ⟩ : ∃ z, z = ofL l2 := ⟨_, rfl⟩
 have HLX : Aside0 (X.length ≤ 40) := ⟨by rw [hX]; have := ofL_le l0; omega⟩
 have HLY : Aside0 (Y.length ≤ 40) := ⟨by rw [hY]; have := ofL_le l1; omega⟩
 have HLZ : Aside0 (Z.length ≤ 40) := ⟨by rw [hZ]; have := ofL_le l2; omega⟩
 have HUX : Aside0 (Up X) := ⟨by rw [hX]; exact ofL_up l0⟩
 have HUY : Aside0 (Up Y) := ⟨by rw [hY]; exact ofL_up l1⟩
 have HUZ : Aside0 (Up Z) := ⟨by rw [hZ]; exact ofL_up l2⟩
 have HEX := Aside0.mk hX; have HEY := Aside0.mk hY; have HEZ := Aside0.mk hZ
 clear hX hY hZ q1 q2 q3
 obtain ⟨P, hP⟩ : ∃ z, z = jP X Y Z := ⟨_, rfl⟩
 have HEP := Aside0.mk hP
 have HUP : Aside0 (Up P) := ⟨by rw [hP]; exact jP_up HUX.out⟩
 have HLP : Aside0 (P.length ≤ 120) := ⟨by rw [hP]; have h1 := jP_len X Y Z; have := HLX.out; have := HLY.out; have := HLZ.out; omega⟩
 have HPP : Aside0 (decB (∀ x ∈ P, x ∈ P) = true) := ⟨decB_true (fun _ h => h)⟩
 have HXP : Aside0 (decB (∀ x ∈ X, x ∈ P) = true) := ⟨decB_true (fun x h => by rw [hP]; exact (jP_mem x).mpr (.inl (.inl h)))⟩
 have HPX : Aside0 (X.foldl addR P = P) := ⟨by rw [hP]; exact jP_again HUX.out⟩
 have HXN : Aside0 (decB ((⟨n0, n1, n2⟩ : Nd) ∈ addR X ⟨n0, n1, n2⟩) = true) := ⟨decB_true ((addR_mem _ _ _).mpr (.inr rfl))⟩
 have HMP : Aside0 ((⟨n0, n1, n2⟩ : Nd) ∈ P ↔ ((⟨n0, n1, n2⟩ : Nd) ∈ X ∨ (⟨n0, n1, n2⟩ : Nd) ∈ Y) ∨ (⟨n0, n1, n2⟩ : Nd) ∈ Z) := ⟨by rw [hP]; exact jP_mem _⟩
 clear hP
 have HB := HB2; have HL0 := HL02; have HL1 := HL12; have HL2 := HL22; have H7 := H72
 clear HB2 HL02 HL12 HL22 H72
 go_upto_region 5 with (fail)
 clear b1 b2 b3
 go_wp2_with fail
 refine (node_Of A0 c0 l0 w2 HL0.out HC0.out HW0.out (by have := HM0.out; omega)).mono ?_
 rintro e v3 ⟨bx, rfl, _, hs, hb⟩
 rw [← HEX.out] at hs
 have hbl : Below w2.heap.size w2 (v3.alloc (.cells #[.map (some bx)] 50)) := below_alloc hb _
 have HB := Aside0.mk (below_step HB.out hbl)
 have H7 := Aside0.mk (blk_below H7.out hbl)
 have HL1 := Aside0.mk (Kd.C_below HL1.out hbl)
 have HL2 := Aside0.mk (Kd.C_below HL2.out hbl)
 have HSX : Aside0 (SetO (v3.alloc (.cells #[.map (some bx)] 50)) (some bx) X) := ⟨SetO.alloc (m := some bx) hs _⟩
 have G9 : Aside0 ((v3.alloc (.cells #[.map (some bx)] 50)).heap[v3.heap.size]? = some (.cells #[.map (some bx)] 50 (0, 0))) := ⟨blk_new _ _⟩
 clear hs hb hbl HL0
 go_upto_region 6 with (fail)
 generalize (v3.alloc (.cells #[.map (some bx)] 50)) = w3 at HB H7 HL1 HL2 HSX G9 ⊢
 generalize v3.heap.size = g9 at G9 ⊢
 go_wp2_with fail
 refine (node_Of A1 c1 l1 w3 HL1.out HC1.out HW1.out (by have := HM1.out; omega)).mono ?_
 rintro e v4 ⟨by_, rfl, _, hs, hb⟩
 rw [← HEY.out] at hs
 have hbl : Below w3.heap.size w3 (v4.alloc (.cells #[.map (some by_)] 50)) := below_alloc hb _
 have HB := Aside0.mk (below_step HB.out hbl)
 have H7 := Aside0.mk (blk_below H7.out hbl)
 have HL2 := Aside0.mk (Kd.C_below HL2.out hbl)
 have HSX := Aside0.mk (HSX.out.below hbl)
 have G9 := Aside0.mk (blk_below G9.out hbl)
 have HSY : Aside0 (SetO (v4.alloc (.cells #[.map (some by_)] 50)) (some by_) Y) := ⟨SetO.alloc (m := some by_) hs _⟩
 have G10 : Aside0 ((v4.alloc (.cells #[.map (some by_)] 50)).heap[v4.heap.size]? = some (.cells #[.map (some by_)] 50 (0, 0))) := ⟨blk_new _ _⟩
 clear hs hb hbl HL1
 go_upto_region 7 with (fail)
 generalize (v4.alloc (.cells #[.map (some by_)] 50)) = w4 at HB H7 HL2 HSX G9 HSY G10 ⊢
 generalize v4.heap.size = g10 at G10 ⊢
 go_wp2_with fail
 refine (node_Of A2 c2 l2 w4 HL2.out HC2.out HW2.out (by have := HM2.out; omega)).mono ?_
 rintro e v5 ⟨bz, rfl, _, hs, hb⟩
 rw [← HEZ.out] at hs
 have hbl : Below w4.heap.size w4 (v5.alloc (.cells #[.map (some bz)] 50)) := below_alloc hb _
 have HB := Aside0.mk (below_step HB.out hbl)
 have H7 := Aside0.mk (blk_below H7.out hbl)
 have HSX := Aside0.mk (HSX.out.below hbl)
 have HSY := Aside0.mk (HSY.out.below hbl)
 have G9 := Aside0.mk (blk_below G9.out hbl)
 have G10 := Aside0.mk (blk_below G10.out hbl)
 have HSZ : Aside0 (SetO (v5.alloc (.cells #[.map (some bz)] 50)) (some bz) Z) := ⟨SetO.alloc (m := some bz) hs _⟩
 have G11 : Aside0 ((v5.alloc (.cells #[.map (some bz)] 50)).heap[v5.heap.size]? = some (.cells #[.map (some bz)] 50 (0, 0))) := ⟨blk_new _ _⟩
 clear hs hb hbl HL2
 go_upto_region 8 with (fail)
 generalize (v5.alloc (.cells #[.map (some bz)] 50)) = ws at HB H7 HSX HSY G9 G10 HSZ G11 ⊢
 generalize v5.heap.size = g11 at G11 ⊢
 refine start_ (n := 7) (S := fun w' => Below ws.heap.size ws w') (ds := [6]) (tf 0 7) (by kernel_rfl) rfl rfl ((below_drew1 (Below.refl _ _))) (fun hHeld => ?_)
 refine with_tabW lawJoins.tab8 lawJoins.bits8 (fun HT_ HW_ => ?_)
 generalize ws.drew = w0d at hHeld ⊢
 refine take_ (i := 0) (N := some 39) (v := ?_) (a' := ?_) (tf 1 6) rfl rfl (take_ofW HT_.out HW_.out (by kernel_rfl)) (fun _ _ _ h => h) (Or.inl ⟨by rfl, ?_⟩) hHeld ?_ ?_
 rotate_left
 ·intro w' s0
  obtain ⟨x0, _⟩ := bk1 (blk_below G9.out s0)
  go_simp
  with_reducible rfl
 rotate_left
 ·simp only [Act.put, List.setIfInBounds_toArray, List.set_cons_zero, List.set_cons_succ, i64_w, i32_w]
  rfl
 refine take_ (i := 1) (N := some 40) (v := ?_) (a' := ?_) (tf 2 5) rfl rfl (take_ofW HT_.out HW_.out (by kernel_rfl)) (fun _ _ _ h => h) (Or.inl ⟨by rfl, ?_⟩) hHeld ?_ ?_
 rotate_left
 ·intro w' s0
  obtain ⟨x0, _⟩ := bk1 (blk_below G10.out s0)
  go_simp
  with_reducible rfl
 rotate_left
 ·simp only [Act.put, List.setIfInBounds_toArray, List.set_cons_zero, List.set_cons_succ, i64_w, i32_w]
  rfl
 refine take_ (i := 3) (N := some 42) (v := ?_) (a' := ?_) #[true, true, false, true, false, false, false] rfl rfl (take_ofW HT_.out HW_.out (by kernel_rfl)) (fun _ _ _ h => h) (Or.inl ⟨by rfl, ?_⟩) hHeld ?_ ?_
 rotate_left
 ·intro w' s0
  obtain ⟨x0, _⟩ := bk1 (blk_below G11.out s0)
  go_simp
  with_reducible rfl
 rotate_left
 ·simp only [Act.put, List.setIfInBounds_toArray, List.set_cons_zero, List.set_cons_succ, i64_w, i32_w]
  rfl
 refine join_ (σ := Nat × Nat × Nat) 1 (tf 6 1) (fun s => [(41, .agg #[.map (some s.1)]), (43, .agg #[.map (some s.2.1)]), (12, .pointer (some ⟨s.2.2, 0, none⟩))]) (fun s w' => Below ws.heap.size ws w' ∧ SetR w' s.1 (Y.foldl addR X) ∧ SetR w' s.2.1 (jP X Y Z) ∧ w'.heap[s.2.2]? = some (.cells #[.map none] 50 (0, 0)) ∧ ws.heap.size ≤ s.2.2) ?_ ?_
 rotate_left
 ·intro hJ2_4_5
  refine join_ (σ := Nat × Nat × Nat) 2 (tf 5 2) (fun s => [(41, .agg #[.map (some s.1)]), (43, .agg #[.map (some s.2.1)])]) (fun s w' => Below ws.heap.size ws w' ∧ SetR w' s.1 (Y.foldl addR X) ∧ SetR w' s.2.1 (jP X Y Z)) ?_ ?_
  rotate_left
  ·intro hJ2_4
   refine join_ (σ := Nat × Nat × Nat) 2 #[true, true, true, true, false, true, false] (fun s => [(41, .agg #[.map (some s.1)]), (12, .pointer (some ⟨s.2.2, 0, none⟩))]) (fun s w' => Below ws.heap.size ws w' ∧ SetR w' s.1 (Y.foldl addR X) ∧ w'.heap[s.2.2]? = some (.cells #[.map none] 50 (0, 0)) ∧ ws.heap.size ≤ s.2.2) ?_ ?_
   rotate_left
   ·intro hJ2_5
    refine join_ (σ := Nat × Nat × Nat) 3 (tf 4 3) (fun s => [(41, .agg #[.map (some s.1)])]) (fun s w' => Below ws.heap.size ws w' ∧ SetR w' s.1 (Y.foldl addR X)) ?_ ?_
    rotate_left
    ·intro hJ2
     refine join_ (σ := Nat × Nat × Nat) 3 #[true, true, false, true, false, true, false] (fun s => [(12, .pointer (some ⟨s.2.2, 0, none⟩))]) (fun s w' => Below ws.heap.size ws w' ∧ w'.heap[s.2.2]? = some (.cells #[.map none] 50 (0, 0)) ∧ ws.heap.size ≤ s.2.2) ?_ ?_
     rotate_left
     ·intro hJ5
      refine two_ (i := 2) (j := 5) (Ni := some 41) (Nj := some 12) (tf 4 3) #[true, true, false, true, false, true, false] rfl rfl rfl rfl (two_of HT_.out (by kernel_rfl)) (by decide) (by decide) (fun K hK => ?_) (fun K hK => ?_)
      ·skip
       have hOld := hHeld
       refine goes_ Tryd.func21 (by kernel_rfl) rfl #[.agg #[.map (some bx)], .agg #[.map (some by_)]] (by rfl) rfl rfl (by simp only [List.map_toArray, List.map_cons, List.map_nil]; rfl) ?_
       refine (set_Join (some bx) (some by_) X Y _ (HSX.out.below hHeld) (HSY.out.below hHeld) (by have := HLX.out; have := HLY.out; omega)).mono ?_
       rintro e wnx2 ⟨b', rfl, _, hs', hb⟩
       refine ⟨_, rfl, ?_⟩
       refine hK.out _ _ ((below_step hHeld hb)) (fun hHeld => ?_)
       clear hK K
       refine norm_ (a' := ?_) ?_ ?_
       rotate_left
       ·show Act.put _ (some 41) _ = _
        simp only [Act.put, List.setIfInBounds_toArray, List.set_cons_zero, List.set_cons_succ, i64_w, i32_w]
        rfl
       exact norm_ (by first | (simp only [putAll, Act.put, List.setIfInBounds_toArray, List.set_cons_zero, List.set_cons_succ]; done) | (simp only [putAll, Act.put, List.setIfInBounds_toArray, List.set_cons_zero, List.set_cons_succ]; rfl)) (hJ2 (b', 0, 0) _ ⟨hHeld, hs'⟩)
      ·skip
       have hOld := hHeld
       refine value_ (w1 := ?_) (v := ?_) (by rfl) rfl ?_ ?_
       rotate_left 2
       ·go_simp
        constructor
        ·rfl
        ·rfl
       refine hK.out _ _ ((below_alloc hHeld _)) (fun hHeld => ?_)
       clear hK K
       refine norm_ (a' := ?_) ?_ ?_
       rotate_left
       ·show Act.put _ (some 12) _ = _
        simp only [Act.put, List.setIfInBounds_toArray, List.set_cons_zero, List.set_cons_succ, i64_w, i32_w]
        rfl
       exact norm_ (by first | (simp only [putAll, Act.put, List.setIfInBounds_toArray, List.set_cons_zero, List.set_cons_succ]; done) | (simp only [putAll, Act.put, List.setIfInBounds_toArray, List.set_cons_zero, List.set_cons_succ]; rfl)) (hJ5 (0, 0, w0d.heap.size) _ ⟨hHeld, (blk_new _ _), hOld.size⟩)
     ·skip
      rintro ⟨bA, bB, gG⟩ wd5 ⟨hHeld, fG, lG⟩
      refine norm_ (a' := ?_) ?_ ?_
      rotate_left
      ·simp only [putAll, Act.put, List.setIfInBounds_toArray, List.set_cons_zero, List.set_cons_succ]
       rfl
      refine one_ (i := 2) (N := some 41) #[true, true, true, true, false, true, false] rfl rfl (one_of HT_.out (by kernel_rfl)) (by decide) (fun K hK => ?_)
      have hOld := hHeld
      refine goes_ Tryd.func21 (by kernel_rfl) rfl #[.agg #[.map (some bx)], .agg #[.map (some by_)]] (by rfl) rfl rfl (by simp only [List.map_toArray, List.map_cons, List.map_nil]; rfl) ?_
      refine (set_Join (some bx) (some by_) X Y _ (HSX.out.below hHeld) (HSY.out.below hHeld) (by have := HLX.out; have := HLY.out; omega)).mono ?_
      rintro e wn5x2 ⟨b', rfl, _, hs', hb⟩
      refine ⟨_, rfl, ?_⟩
      refine hK.out _ _ ((below_step hHeld hb)) (fun hHeld => ?_)
      clear hK K
      refine norm_ (a' := ?_) ?_ ?_
      rotate_left
      ·show Act.put _ (some 41) _ = _
       simp only [Act.put, List.setIfInBounds_toArray, List.set_cons_zero, List.set_cons_succ, i64_w, i32_w]
       rfl
      exact norm_ (by first | (simp only [putAll, Act.put, List.setIfInBounds_toArray, List.set_cons_zero, List.set_cons_succ]; done) | (simp only [putAll, Act.put, List.setIfInBounds_toArray, List.set_cons_zero, List.set_cons_succ]; rfl)) (hJ2_5 (b', 0, gG) _ ⟨hHeld, hs', (blk_below fG hb), lG⟩)
    ·skip
     rintro ⟨bA, bB, gG⟩ wd2 ⟨hHeld, fA⟩
     refine norm_ (a' := ?_) ?_ ?_
     rotate_left
     ·simp only [putAll, Act.put, List.setIfInBounds_toArray, List.set_cons_zero, List.set_cons_succ]
      rfl
     refine two_ (i := 4) (j := 5) (Ni := some 43) (Nj := some 12) (tf 5 2) #[true, true, true, true, false, true, false] rfl rfl rfl rfl (two_of HT_.out (by kernel_rfl)) (by decide) (by decide) (fun K hK => ?_) (fun K hK => ?_)
     ·skip
      have hOld := hHeld
      refine goes_ Tryd.func21 (by kernel_rfl) rfl #[.agg #[.map (some bA)], .agg #[.map (some bz)]] (by rfl) rfl rfl (by simp only [List.map_toArray, List.map_cons, List.map_nil]; rfl) ?_
      refine (set_Join (some bA) (some bz) (Y.foldl addR X) Z _ fA (HSZ.out.below hHeld) (by have := HLX.out; have := HLY.out; have := HLZ.out; have := foldl_le Y X; omega)).mono ?_
      rintro e wn2x4 ⟨b', rfl, _, hs', hb⟩
      refine ⟨_, rfl, ?_⟩
      refine hK.out _ _ ((below_step hHeld hb)) (fun hHeld => ?_)
      clear hK K
      refine norm_ (a' := ?_) ?_ ?_
      rotate_left
      ·show Act.put _ (some 43) _ = _
       simp only [Act.put, List.setIfInBounds_toArray, List.set_cons_zero, List.set_cons_succ, i64_w, i32_w]
       rfl
      exact norm_ (by first | (simp only [putAll, Act.put, List.setIfInBounds_toArray, List.set_cons_zero, List.set_cons_succ]; done) | (simp only [putAll, Act.put, List.setIfInBounds_toArray, List.set_cons_zero, List.set_cons_succ]; rfl)) (hJ2_4 (bA, b', 0) _ ⟨hHeld, (fA.below hb), hs'⟩)
     ·skip
      have hOld := hHeld
      refine value_ (w1 := ?_) (v := ?_) (by rfl) rfl ?_ ?_
      rotate_left 2
      ·go_simp
       constructor
       ·rfl
       ·rfl
      refine hK.out _ _ ((below_alloc hHeld _)) (fun hHeld => ?_)
      clear hK K
      refine norm_ (a' := ?_) ?_ ?_
      rotate_left
      ·show Act.put _ (some 12) _ = _
       simp only [Act.put, List.setIfInBounds_toArray, List.set_cons_zero, List.set_cons_succ, i64_w, i32_w]
       rfl
      exact norm_ (by first | (simp only [putAll, Act.put, List.setIfInBounds_toArray, List.set_cons_zero, List.set_cons_succ]; done) | (simp only [putAll, Act.put, List.setIfInBounds_toArray, List.set_cons_zero, List.set_cons_succ]; rfl)) (hJ2_5 (bA, 0, wd2.heap.size) _ ⟨hHeld, (fA.below (below_alloc (Below.refl _ _) _)), (blk_new _ _), hOld.size⟩)
   ·skip
    rintro ⟨bA, bB, gG⟩ wd2_5 ⟨hHeld, fA, fG, lG⟩
    refine norm_ (a' := ?_) ?_ ?_
    rotate_left
    ·simp only [putAll, Act.put, List.setIfInBounds_toArray, List.set_cons_zero, List.set_cons_succ]
     rfl
    refine one_ (i := 4) (N := some 43) (tf 6 1) rfl rfl (one_of HT_.out (by kernel_rfl)) (by decide) (fun K hK => ?_)
    have hOld := hHeld
    refine goes_ Tryd.func21 (by kernel_rfl) rfl #[.agg #[.map (some bA)], .agg #[.map (some bz)]] (by rfl) rfl rfl (by simp only [List.map_toArray, List.map_cons, List.map_nil]; rfl) ?_
    refine (set_Join (some bA) (some bz) (Y.foldl addR X) Z _ fA (HSZ.out.below hHeld) (by have := HLX.out; have := HLY.out; have := HLZ.out; have := foldl_le Y X; omega)).mono ?_
    rintro e wn2_5x4 ⟨b', rfl, _, hs', hb⟩
    refine ⟨_, rfl, ?_⟩
    refine hK.out _ _ ((below_step hHeld hb)) (fun hHeld => ?_)
    clear hK K
    refine norm_ (a' := ?_) ?_ ?_
    rotate_left
    ·show Act.put _ (some 43) _ = _
     simp only [Act.put, List.setIfInBounds_toArray, List.set_cons_zero, List.set_cons_succ, i64_w, i32_w]
     rfl
    exact norm_ (by first | (simp only [putAll, Act.put, List.setIfInBounds_toArray, List.set_cons_zero, List.set_cons_succ]; done) | (simp only [putAll, Act.put, List.setIfInBounds_toArray, List.set_cons_zero, List.set_cons_succ]; rfl)) (hJ2_4_5 (bA, b', gG) _ ⟨hHeld, (fA.below hb), hs', (blk_below fG hb), lG⟩)
  ·skip
   rintro ⟨bA, bB, gG⟩ wd2_4 ⟨hHeld, fA, fB⟩
   refine norm_ (a' := ?_) ?_ ?_
   rotate_left
   ·simp only [putAll, Act.put, List.setIfInBounds_toArray, List.set_cons_zero, List.set_cons_succ]
    rfl
   refine one_ (i := 5) (N := some 12) (tf 6 1) rfl rfl (one_of HT_.out (by kernel_rfl)) (by decide) (fun K hK => ?_)
   have hOld := hHeld
   refine value_ (w1 := ?_) (v := ?_) (by rfl) rfl ?_ ?_
   rotate_left 2
   ·go_simp
    constructor
    ·rfl
    ·rfl
   refine hK.out _ _ ((below_alloc hHeld _)) (fun hHeld => ?_)
   clear hK K
   refine norm_ (a' := ?_) ?_ ?_
   rotate_left
   ·show Act.put _ (some 12) _ = _
    simp only [Act.put, List.setIfInBounds_toArray, List.set_cons_zero, List.set_cons_succ, i64_w, i32_w]
    rfl
   exact norm_ (by first | (simp only [putAll, Act.put, List.setIfInBounds_toArray, List.set_cons_zero, List.set_cons_succ]; done) | (simp only [putAll, Act.put, List.setIfInBounds_toArray, List.set_cons_zero, List.set_cons_succ]; rfl)) (hJ2_4_5 (bA, bB, wd2_4.heap.size) _ ⟨hHeld, (fA.below (below_alloc (Below.refl _ _) _)), (fB.below (below_alloc (Below.refl _ _) _)), (blk_new _ _), hOld.size⟩)
 rintro ⟨bA, bB, gG⟩ wd2_4_5 ⟨hHeld, fA, fB, fG, lG⟩
 refine norm_ (a' := ?_) ?_ ?_
 rotate_left
 ·simp only [putAll, Act.put, List.setIfInBounds_toArray, List.set_cons_zero, List.set_cons_succ]
  rfl
 refine last_ (i := 6) (N := none) (tf 7 0) rfl rfl (one_of HT_.out (by kernel_rfl)) (by decide) (fun K hK => ?_)
 obtain ⟨z0, z1⟩ := bk1 fG
 refine skip_ (w1 := ?_) (by rfl) rfl ?_ ?_
 rotate_left
 ·go_simp
  rfl
 refine hK.out _ _ ?_
 clear hK K
 refine done_ (done_of HT_.out (by kernel_rfl)) ?_
 have hne : bB ≠ gG := fB.ne_cells fG
 have hbl := hHeld.grown (grownBy_setCell' wd2_4_5 gG (.map (some bB))) hHeld.size (fun k e => by cases e; exact lG)
 have HB := Aside0.mk (below_step HB.out hbl)
 have H7 := Aside0.mk (blk_below H7.out hbl)
 have HSX := Aside0.mk (HSX.out.below hbl)
 have HSY := Aside0.mk (HSY.out.below hbl)
 have HSZ := Aside0.mk (HSZ.out.below hbl)
 have G9 := Aside0.mk (blk_below G9.out hbl)
 have G10 := Aside0.mk (blk_below G10.out hbl)
 have G11 := Aside0.mk (blk_below G11.out hbl)
 have HSP : Aside0 (SetO (wd2_4_5.setCell ⟨gG, 0, none⟩ (.map (some bB))) (some bB) P) := ⟨by rw [HEP.out]; exact fB.kept (grownBy_setCell' _ _ _) (by simpa using hne)⟩
 have G12 : Aside0 ((wd2_4_5.setCell ⟨gG, 0, none⟩ (.map (some bB))).heap[gG]? = some (.cells #[.map (some bB)] 50 (0, 0))) := ⟨blk_put fG 0 (.map (some bB)) rfl⟩
 clear hHeld HT_ HW_ fA fB fG lG hne hbl z0 z1
 obtain ⟨bp, hbb⟩ : ∃ z, z = bB := ⟨_, rfl⟩
 obtain ⟨g12, hgg⟩ : ∃ z, z = gG := ⟨_, rfl⟩
 rw [← hbb, ← hgg] at HB H7 HSX HSY HSZ G9 G10 G11 HSP G12 ⊢
 clear hbb hgg
 generalize wd2_4_5.setCell ⟨g12, 0, none⟩ (.map (some bp)) = wz at HB H7 HSX HSY HSZ G9 G10 G11 HSP G12 ⊢
 obtain ⟨ws, hws⟩ : ∃ z, z = wz := ⟨_, rfl⟩
 rw [← hws] at HB H7 HSX HSY HSZ G9 G10 G11 HSP G12 ⊢
 clear hws
 go_upto_region 9 with (fail)
 refine start_ (n := 7) (S := fun w' => Below ws.heap.size ws w') (ds := [6]) (tf 0 7) (by kernel_rfl) rfl rfl ((below_drew1 (Below.refl _ _))) (fun hHeld => ?_)
 refine with_tabW lawJoins.tab9 lawJoins.bits9 (fun HT_ HW_ => ?_)
 generalize ws.drew = w0d at hHeld ⊢
 refine take_ (i := 0) (N := some 44) (v := ?_) (a' := ?_) (tf 1 6) rfl rfl (take_ofW HT_.out HW_.out (by kernel_rfl)) (fun _ _ _ h => h) (Or.inl ⟨by rfl, ?_⟩) hHeld ?_ ?_
 rotate_left
 ·intro w' s0
  obtain ⟨x0, _⟩ := bk1 (blk_below G11.out s0)
  go_simp
  with_reducible rfl
 rotate_left
 ·simp only [Act.put, List.setIfInBounds_toArray, List.set_cons_zero, List.set_cons_succ, i64_w, i32_w]
  rfl
 refine take_ (i := 1) (N := some 45) (v := ?_) (a' := ?_) (tf 2 5) rfl rfl (take_ofW HT_.out HW_.out (by kernel_rfl)) (fun _ _ _ h => h) (Or.inl ⟨by rfl, ?_⟩) hHeld ?_ ?_
 rotate_left
 ·intro w' s0
  obtain ⟨x0, _⟩ := bk1 (blk_below G10.out s0)
  go_simp
  with_reducible rfl
 rotate_left
 ·simp only [Act.put, List.setIfInBounds_toArray, List.set_cons_zero, List.set_cons_succ, i64_w, i32_w]
  rfl
 refine take_ (i := 2) (N := some 46) (v := ?_) (a' := ?_) (tf 3 4) rfl rfl (take_ofW HT_.out HW_.out (by kernel_rfl)) (fun _ _ _ h => h) (Or.inl ⟨by rfl, ?_⟩) hHeld ?_ ?_
 rotate_left
 ·intro w' s0
  obtain ⟨x0, _⟩ := bk1 (blk_below G9.out s0)
  go_simp
  with_reducible rfl
 rotate_left
 ·simp only [Act.put, List.setIfInBounds_toArray, List.set_cons_zero, List.set_cons_succ, i64_w, i32_w]
  rfl
 refine join_ (σ := Nat × Nat × Nat) 1 (tf 6 1) (fun s => [(47, .agg #[.map (some s.1)]), (48, .agg #[.map (some s.2.1)]), (13, .pointer (some ⟨s.2.2, 0, none⟩))]) (fun s w' => Below ws.heap.size ws w' ∧ SetR w' s.1 (X.foldl addR Y) ∧ SetR w' s.2.1 ((X.foldl addR Y).foldl addR Z) ∧ w'.heap[s.2.2]? = some (.cells #[.map none] 50 (0, 0)) ∧ ws.heap.size ≤ s.2.2) ?_ ?_
 rotate_left
 ·intro hJ3_4_5
  refine join_ (σ := Nat × Nat × Nat) 2 (tf 5 2) (fun s => [(47, .agg #[.map (some s.1)]), (48, .agg #[.map (some s.2.1)])]) (fun s w' => Below ws.heap.size ws w' ∧ SetR w' s.1 (X.foldl addR Y) ∧ SetR w' s.2.1 ((X.foldl addR Y).foldl addR Z)) ?_ ?_
  rotate_left
  ·intro hJ3_4
   refine join_ (σ := Nat × Nat × Nat) 2 #[true, true, true, true, false, true, false] (fun s => [(47, .agg #[.map (some s.1)]), (13, .pointer (some ⟨s.2.2, 0, none⟩))]) (fun s w' => Below ws.heap.size ws w' ∧ SetR w' s.1 (X.foldl addR Y) ∧ w'.heap[s.2.2]? = some (.cells #[.map none] 50 (0, 0)) ∧ ws.heap.size ≤ s.2.2) ?_ ?_
   rotate_left
   ·intro hJ3_5
    refine join_ (σ := Nat × Nat × Nat) 3 (tf 4 3) (fun s => [(47, .agg #[.map (some s.1)])]) (fun s w' => Below ws.heap.size ws w' ∧ SetR w' s.1 (X.foldl addR Y)) ?_ ?_
    rotate_left
    ·intro hJ3
     refine join_ (σ := Nat × Nat × Nat) 3 #[true, true, true, false, false, true, false] (fun s => [(13, .pointer (some ⟨s.2.2, 0, none⟩))]) (fun s w' => Below ws.heap.size ws w' ∧ w'.heap[s.2.2]? = some (.cells #[.map none] 50 (0, 0)) ∧ ws.heap.size ≤ s.2.2) ?_ ?_
     rotate_left
     ·intro hJ5
      refine two_ (i := 3) (j := 5) (Ni := some 47) (Nj := some 13) (tf 4 3) #[true, true, true, false, false, true, false] rfl rfl rfl rfl (two_of HT_.out (by kernel_rfl)) (by decide) (by decide) (fun K hK => ?_) (fun K hK => ?_)
      ·skip
       have hOld := hHeld
       refine goes_ Tryd.func21 (by kernel_rfl) rfl #[.agg #[.map (some by_)], .agg #[.map (some bx)]] (by rfl) rfl rfl (by simp only [List.map_toArray, List.map_cons, List.map_nil]; rfl) ?_
       refine (set_Join (some by_) (some bx) Y X _ (HSY.out.below hHeld) (HSX.out.below hHeld) (by have := HLX.out; have := HLY.out; omega)).mono ?_
       rintro e wnx3 ⟨b', rfl, _, hs', hb⟩
       refine ⟨_, rfl, ?_⟩
       refine hK.out _ _ ((below_step hHeld hb)) (fun hHeld => ?_)
       clear hK K
       refine norm_ (a' := ?_) ?_ ?_
       rotate_left
       ·show Act.put _ (some 47) _ = _
        simp only [Act.put, List.setIfInBounds_toArray, List.set_cons_zero, List.set_cons_succ, i64_w, i32_w]
        rfl
       exact norm_ (by first | (simp only [putAll, Act.put, List.setIfInBounds_toArray, List.set_cons_zero, List.set_cons_succ]; done) | (simp only [putAll, Act.put, List.setIfInBounds_toArray, List.set_cons_zero, List.set_cons_succ]; rfl)) (hJ3 (b', 0, 0) _ ⟨hHeld, hs'⟩)
      ·skip
       have hOld := hHeld
       refine value_ (w1 := ?_) (v := ?_) (by rfl) rfl ?_ ?_
       rotate_left 2
       ·go_simp
        constructor
        ·rfl
        ·rfl
       refine hK.out _ _ ((below_alloc hHeld _)) (fun hHeld => ?_)
       clear hK K
       refine norm_ (a' := ?_) ?_ ?_
       rotate_left
       ·show Act.put _ (some 13) _ = _
        simp only [Act.put, List.setIfInBounds_toArray, List.set_cons_zero, List.set_cons_succ, i64_w, i32_w]
        rfl
       exact norm_ (by first | (simp only [putAll, Act.put, List.setIfInBounds_toArray, List.set_cons_zero, List.set_cons_succ]; done) | (simp only [putAll, Act.put, List.setIfInBounds_toArray, List.set_cons_zero, List.set_cons_succ]; rfl)) (hJ5 (0, 0, w0d.heap.size) _ ⟨hHeld, (blk_new _ _), hOld.size⟩)
     ·skip
      rintro ⟨bA, bB, gG⟩ wd5 ⟨hHeld, fG, lG⟩
      refine norm_ (a' := ?_) ?_ ?_
      rotate_left
      ·simp only [putAll, Act.put, List.setIfInBounds_toArray, List.set_cons_zero, List.set_cons_succ]
       rfl
      refine one_ (i := 3) (N := some 47) #[true, true, true, true, false, true, false] rfl rfl (one_of HT_.out (by kernel_rfl)) (by decide) (fun K hK => ?_)
      have hOld := hHeld
      refine goes_ Tryd.func21 (by kernel_rfl) rfl #[.agg #[.map (some by_)], .agg #[.map (some bx)]] (by rfl) rfl rfl (by simp only [List.map_toArray, List.map_cons, List.map_nil]; rfl) ?_
      refine (set_Join (some by_) (some bx) Y X _ (HSY.out.below hHeld) (HSX.out.below hHeld) (by have := HLX.out; have := HLY.out; omega)).mono ?_
      rintro e wn5x3 ⟨b', rfl, _, hs', hb⟩
      refine ⟨_, rfl, ?_⟩
      refine hK.out _ _ ((below_step hHeld hb)) (fun hHeld => ?_)
      clear hK K
      refine norm_ (a' := ?_) ?_ ?_
      rotate_left
      ·show Act.put _ (some 47) _ = _
       simp only [Act.put, List.setIfInBounds_toArray, List.set_cons_zero, List.set_cons_succ, i64_w, i32_w]
       rfl
      exact norm_ (by first | (simp only [putAll, Act.put, List.setIfInBounds_toArray, List.set_cons_zero, List.set_cons_succ]; done) | (simp only [putAll, Act.put, List.setIfInBounds_toArray, List.set_cons_zero, List.set_cons_succ]; rfl)) (hJ3_5 (b', 0, gG) _ ⟨hHeld, hs', (blk_below fG hb), lG⟩)
    ·skip
     rintro ⟨bA, bB, gG⟩ wd3 ⟨hHeld, fA⟩
     refine norm_ (a' := ?_) ?_ ?_
     rotate_left
     ·simp only [putAll, Act.put, List.setIfInBounds_toArray, List.set_cons_zero, List.set_cons_succ]
      rfl
     refine two_ (i := 4) (j := 5) (Ni := some 48) (Nj := some 13) (tf 5 2) #[true, true, true, true, false, true, false] rfl rfl rfl rfl (two_of HT_.out (by kernel_rfl)) (by decide) (by decide) (fun K hK => ?_) (fun K hK => ?_)
     ·skip
      have hOld := hHeld
      refine goes_ Tryd.func21 (by kernel_rfl) rfl #[.agg #[.map (some bz)], .agg #[.map (some bA)]] (by rfl) rfl rfl (by simp only [List.map_toArray, List.map_cons, List.map_nil]; rfl) ?_
      refine (set_Join (some bz) (some bA) Z (X.foldl addR Y) _ (HSZ.out.below hHeld) fA (by have := HLX.out; have := HLY.out; have := HLZ.out; have := foldl_le X Y; omega)).mono ?_
      rintro e wn3x4 ⟨b', rfl, _, hs', hb⟩
      refine ⟨_, rfl, ?_⟩
      refine hK.out _ _ ((below_step hHeld hb)) (fun hHeld => ?_)
      clear hK K
      refine norm_ (a' := ?_) ?_ ?_
      rotate_left
      ·show Act.put _ (some 48) _ = _
       simp only [Act.put, List.setIfInBounds_toArray, List.set_cons_zero, List.set_cons_succ, i64_w, i32_w]
       rfl
      exact norm_ (by first | (simp only [putAll, Act.put, List.setIfInBounds_toArray, List.set_cons_zero, List.set_cons_succ]; done) | (simp only [putAll, Act.put, List.setIfInBounds_toArray, List.set_cons_zero, List.set_cons_succ]; rfl)) (hJ3_4 (bA, b', 0) _ ⟨hHeld, (fA.below hb), hs'⟩)
     ·skip
      have hOld := hHeld
      refine value_ (w1 := ?_) (v := ?_) (by rfl) rfl ?_ ?_
      rotate_left 2
      ·go_simp
       constructor
       ·rfl
       ·rfl
      refine hK.out _ _ ((below_alloc hHeld _)) (fun hHeld => ?_)
      clear hK K
      refine norm_ (a' := ?_) ?_ ?_
      rotate_left
      ·show Act.put _ (some 13) _ = _
       simp only [Act.put, List.setIfInBounds_toArray, List.set_cons_zero, List.set_cons_succ, i64_w, i32_w]
       rfl
      exact norm_ (by first | (simp only [putAll, Act.put, List.setIfInBounds_toArray, List.set_cons_zero, List.set_cons_succ]; done) | (simp only [putAll, Act.put, List.setIfInBounds_toArray, List.set_cons_zero, List.set_cons_succ]; rfl)) (hJ3_5 (bA, 0, wd3.heap.size) _ ⟨hHeld, (fA.below (below_alloc (Below.refl _ _) _)), (blk_new _ _), hOld.size⟩)
   ·skip
    rintro ⟨bA, bB, gG⟩ wd3_5 ⟨hHeld, fA, fG, lG⟩
    refine norm_ (a' := ?_) ?_ ?_
    rotate_left
    ·simp only [putAll, Act.put, List.setIfInBounds_toArray, List.set_cons_zero, List.set_cons_succ]
     rfl
    refine one_ (i := 4) (N := some 48) (tf 6 1) rfl rfl (one_of HT_.out (by kernel_rfl)) (by decide) (fun K hK => ?_)
    have hOld := hHeld
    refine goes_ Tryd.func21 (by kernel_rfl) rfl #[.agg #[.map (some bz)], .agg #[.map (some bA)]] (by rfl) rfl rfl (by simp only [List.map_toArray, List.map_cons, List.map_nil]; rfl) ?_
    refine (set_Join (some bz) (some bA) Z (X.foldl addR Y) _ (HSZ.out.below hHeld) fA (by have := HLX.out; have := HLY.out; have := HLZ.out; have := foldl_le X Y; omega)).mono ?_
    rintro e wn3_5x4 ⟨b', rfl, _, hs', hb⟩
    refine ⟨_, rfl, ?_⟩
    refine hK.out _ _ ((below_step hHeld hb)) (fun hHeld => ?_)
    clear hK K
    refine norm_ (a' := ?_) ?_ ?_
    rotate_left
    ·show Act.put _ (some 48) _ = _
     simp only [Act.put, List.setIfInBounds_toArray, List.set_cons_zero, List.set_cons_succ, i64_w, i32_w]
     rfl
    exact norm_ (by first | (simp only [putAll, Act.put, List.setIfInBounds_toArray, List.set_cons_zero, List.set_cons_succ]; done) | (simp only [putAll, Act.put, List.setIfInBounds_toArray, List.set_cons_zero, List.set_cons_succ]; rfl)) (hJ3_4_5 (bA, b', gG) _ ⟨hHeld, (fA.below hb), hs', (blk_below fG hb), lG⟩)
  ·skip
   rintro ⟨bA, bB, gG⟩ wd3_4 ⟨hHeld, fA, fB⟩
   refine norm_ (a' := ?_) ?_ ?_
   rotate_left
   ·simp only [putAll, Act.put, List.setIfInBounds_toArray, List.set_cons_zero, List.set_cons_succ]
    rfl
   refine one_ (i := 5) (N := some 13) (tf 6 1) rfl rfl (one_of HT_.out (by kernel_rfl)) (by decide) (fun K hK => ?_)
   have hOld := hHeld
   refine value_ (w1 := ?_) (v := ?_) (by rfl) rfl ?_ ?_
   rotate_left 2
   ·go_simp
    constructor
    ·rfl
    ·rfl
   refine hK.out _ _ ((below_alloc hHeld _)) (fun hHeld => ?_)
   clear hK K
   refine norm_ (a' := ?_) ?_ ?_
   rotate_left
   ·show Act.put _ (some 13) _ = _
    simp only [Act.put, List.setIfInBounds_toArray, List.set_cons_zero, List.set_cons_succ, i64_w, i32_w]
    rfl
   exact norm_ (by first | (simp only [putAll, Act.put, List.setIfInBounds_toArray, List.set_cons_zero, List.set_cons_succ]; done) | (simp only [putAll, Act.put, List.setIfInBounds_toArray, List.set_cons_zero, List.set_cons_succ]; rfl)) (hJ3_4_5 (bA, bB, wd3_4.heap.size) _ ⟨hHeld, (fA.below (below_alloc (Below.refl _ _) _)), (fB.below (below_alloc (Below.refl _ _) _)), (blk_new _ _), hOld.size⟩)
 rintro ⟨bA, bB, gG⟩ wd3_4_5 ⟨hHeld, fA, fB, fG, lG⟩
 refine norm_ (a' := ?_) ?_ ?_
 rotate_left
 ·simp only [putAll, Act.put, List.setIfInBounds_toArray, List.set_cons_zero, List.set_cons_succ]
  rfl
 refine last_ (i := 6) (N := none) (tf 7 0) rfl rfl (one_of HT_.out (by kernel_rfl)) (by decide) (fun K hK => ?_)
 obtain ⟨z0, z1⟩ := bk1 fG
 refine skip_ (w1 := ?_) (by rfl) rfl ?_ ?_
 rotate_left
 ·go_simp
  rfl
 refine hK.out _ _ ?_
 clear hK K
 refine done_ (done_of HT_.out (by kernel_rfl)) ?_
 have hne : bB ≠ gG := fB.ne_cells fG
 have hbl := hHeld.grown (grownBy_setCell' wd3_4_5 gG (.map (some bB))) hHeld.size (fun k e => by cases e; exact lG)
 have HB := Aside0.mk (below_step HB.out hbl)
 have H7 := Aside0.mk (blk_below H7.out hbl)
 have HSX := Aside0.mk (HSX.out.below hbl)
 have HSY := Aside0.mk (HSY.out.below hbl)
 have HSZ := Aside0.mk (HSZ.out.below hbl)
 have G9 := Aside0.mk (blk_below G9.out hbl)
 have G10 := Aside0.mk (blk_below G10.out hbl)
 have G11 := Aside0.mk (blk_below G11.out hbl)
 have HSP := Aside0.mk (HSP.out.below hbl)
 have G12 := Aside0.mk (blk_below G12.out hbl)
 have HSQ : Aside0 (SetO (wd3_4_5.setCell ⟨gG, 0, none⟩ (.map (some bB))) (some bB) P) := ⟨by rw [HEP.out, ← jP_other HUX.out HUY.out HUZ.out]; exact fB.kept (grownBy_setCell' _ _ _) (by simpa using hne)⟩
 have G13 : Aside0 ((wd3_4_5.setCell ⟨gG, 0, none⟩ (.map (some bB))).heap[gG]? = some (.cells #[.map (some bB)] 50 (0, 0))) := ⟨blk_put fG 0 (.map (some bB)) rfl⟩
 clear hHeld HT_ HW_ fA fB fG lG hne hbl z0 z1
 obtain ⟨bq, hbb⟩ : ∃ z, z = bB := ⟨_, rfl⟩
 obtain ⟨g13, hgg⟩ : ∃ z, z = gG := ⟨_, rfl⟩
 rw [← hbb, ← hgg] at HB H7 HSX HSY HSZ G9 G10 G11 HSP G12 HSQ G13 ⊢
 clear hbb hgg
 generalize wd3_4_5.setCell ⟨g13, 0, none⟩ (.map (some bq)) = wz at HB H7 HSX HSY HSZ G9 G10 G11 HSP G12 HSQ G13 ⊢
 obtain ⟨ws, hws⟩ : ∃ z, z = wz := ⟨_, rfl⟩
 rw [← hws] at HB H7 HSX HSY HSZ G9 G10 G11 HSP G12 HSQ G13 ⊢
 clear hws
 by_cases hnx : (⟨n0, n1, n2⟩ : Nd) ∈ X
 ·have HNX : Aside0 (decB ((⟨n0, n1, n2⟩ : Nd) ∈ X) = true) := ⟨decB_true hnx⟩
  have HNP : Aside0 (decB ((⟨n0, n1, n2⟩ : Nd) ∈ P) = true) := ⟨decB_true (HMP.out.mpr (.inl (.inl hnx)))⟩
  clear hnx
  go_upto_region 10 with (fail)
  refine start_ (n := 59) (S := fun w' => Below ws.heap.size ws w') (ds := []) (tf 0 59) (by kernel_rfl) rfl rfl ((below_drew1 (Below.refl _ _))) (fun hHeld => ?_)
  refine with_tabW lawJoins.tab10 lawJoins.bits10 (fun HT_ HW_ => ?_)
  refine take_ (i := 0) (N := some 49) (v := ?_) (a' := ?_) (tf 1 58) rfl rfl (take_ofW HT_.out HW_.out (by kernel_rfl)) (fun _ _ _ h => h) (Or.inl ⟨by rfl, ?_⟩) hHeld ?_ ?_
  rotate_left
  ·intro w' s0
   obtain ⟨x0, _⟩ := bk1 (blk_below G12.out s0)
   go_simp
   with_reducible rfl
  rotate_left
  ·simp only [Act.put, List.setIfInBounds_toArray, List.set_cons_zero, List.set_cons_succ, i64_w, i32_w]
   rfl
  refine take_ (i := 1) (N := some 50) (v := ?_) (a' := ?_) (tf 2 57) rfl rfl (take_ofW HT_.out HW_.out (by kernel_rfl)) (fun _ _ _ h => h) (Or.inl ⟨by rfl, ?_⟩) hHeld ?_ ?_
  rotate_left
  ·intro w' s0
   obtain ⟨x0, _⟩ := bk1 (blk_below G13.out s0)
   go_simp
   with_reducible rfl
  rotate_left
  ·simp only [Act.put, List.setIfInBounds_toArray, List.set_cons_zero, List.set_cons_succ, i64_w, i32_w]
   rfl
  refine one_ (i := 2) (N := some 51) (tf 3 56) rfl rfl (one_of HT_.out (by kernel_rfl)) (by decide) (fun K hK => ?_)
  refine goes_ Tryd.func23 (by kernel_rfl) rfl #[.agg #[.map (some bp)], .agg #[.map (some bq)]] (by rfl) rfl rfl (by simp only [List.map_toArray, List.map_cons, List.map_nil]; rfl) ?_
  refine (within_p true (some bp) (some bq) P P _ (HSP.out.below hHeld) (HSQ.out.below hHeld) HPP.out).mono ?_
  rintro e w902 ⟨rfl, hb⟩
  refine ⟨_, rfl, ?_⟩
  refine hK.out _ _ (below_step hHeld hb) (fun hHeld => ?_)
  clear hK K
  refine norm_ (a' := ?_) ?_ ?_
  rotate_left
  ·show Act.put _ (some 51) _ = _
   simp only [Act.put, List.setIfInBounds_toArray, List.set_cons_zero, List.set_cons_succ, i64_w, i32_w]
   rfl
  refine pure_ (i := 3) (N := some 52) (v := ?_) (a' := ?_) (tf 4 55) rfl rfl (any_of HT_.out (by kernel_rfl)) (fun _ _ _ h => h) (Or.inl ⟨by rfl, ?_⟩) ?_ ?_
  rotate_left
  ·intro w'
   go_simp
   with_reducible rfl
  rotate_left
  ·simp only [Act.put, List.setIfInBounds_toArray, List.set_cons_zero, List.set_cons_succ, i64_w, i32_w]
   rfl
  refine pure_ (i := 4) (N := some 53) (v := ?_) (a' := ?_) (tf 5 54) rfl rfl (any_of HT_.out (by kernel_rfl)) (fun _ _ _ h => h) (Or.inl ⟨by rfl, ?_⟩) ?_ ?_
  rotate_left
  ·intro w'
   go_simp
   with_reducible rfl
  rotate_left
  ·simp only [Act.put, List.setIfInBounds_toArray, List.set_cons_zero, List.set_cons_succ, i64_w, i32_w]
   rfl
  refine take_ (i := 5) (N := some 54) (v := ?_) (a' := ?_) (tf 6 53) rfl rfl (take_ofW HT_.out HW_.out (by kernel_rfl)) (fun _ _ _ h => h) (Or.inl ⟨by rfl, ?_⟩) hHeld ?_ ?_
  rotate_left
  ·intro w' s0
   obtain ⟨x0, _⟩ := bk1 (blk_below G13.out s0)
   go_simp
   with_reducible rfl
  rotate_left
  ·simp only [Act.put, List.setIfInBounds_toArray, List.set_cons_zero, List.set_cons_succ, i64_w, i32_w]
   rfl
  refine take_ (i := 6) (N := some 55) (v := ?_) (a' := ?_) (tf 7 52) rfl rfl (take_ofW HT_.out HW_.out (by kernel_rfl)) (fun _ _ _ h => h) (Or.inl ⟨by rfl, ?_⟩) hHeld ?_ ?_
  rotate_left
  ·intro w' s0
   obtain ⟨x0, _⟩ := bk1 (blk_below G12.out s0)
   go_simp
   with_reducible rfl
  rotate_left
  ·simp only [Act.put, List.setIfInBounds_toArray, List.set_cons_zero, List.set_cons_succ, i64_w, i32_w]
   rfl
  refine one_ (i := 7) (N := some 56) (tf 8 51) rfl rfl (one_of HT_.out (by kernel_rfl)) (by decide) (fun K hK => ?_)
  refine goes_ Tryd.func23 (by kernel_rfl) rfl #[.agg #[.map (some bq)], .agg #[.map (some bp)]] (by rfl) rfl rfl (by simp only [List.map_toArray, List.map_cons, List.map_nil]; rfl) ?_
  refine (within_p true (some bq) (some bp) P P _ (HSQ.out.below hHeld) (HSP.out.below hHeld) HPP.out).mono ?_
  rintro e w907 ⟨rfl, hb⟩
  refine ⟨_, rfl, ?_⟩
  refine hK.out _ _ (below_step hHeld hb) (fun hHeld => ?_)
  clear hK K
  refine norm_ (a' := ?_) ?_ ?_
  rotate_left
  ·show Act.put _ (some 56) _ = _
   simp only [Act.put, List.setIfInBounds_toArray, List.set_cons_zero, List.set_cons_succ, i64_w, i32_w]
   rfl
  refine pure_ (i := 8) (N := some 57) (v := ?_) (a' := ?_) (tf 9 50) rfl rfl (any_of HT_.out (by kernel_rfl)) (fun _ _ _ h => h) (Or.inl ⟨by rfl, ?_⟩) ?_ ?_
  rotate_left
  ·intro w'
   go_simp
   with_reducible rfl
  rotate_left
  ·simp only [Act.put, List.setIfInBounds_toArray, List.set_cons_zero, List.set_cons_succ, i64_w, i32_w]
   rfl
  refine pure_ (i := 9) (N := some 58) (v := ?_) (a' := ?_) (tf 10 49) rfl rfl (any_of HT_.out (by kernel_rfl)) (fun _ _ _ h => h) (Or.inl ⟨by rfl, ?_⟩) ?_ ?_
  rotate_left
  ·intro w'
   go_simp
   with_reducible rfl
  rotate_left
  ·simp only [Act.put, List.setIfInBounds_toArray, List.set_cons_zero, List.set_cons_succ, i64_w, i32_w]
   rfl
  refine pure_ (i := 10) (N := some 59) (v := ?_) (a' := ?_) (tf 11 48) rfl rfl (any_of HT_.out (by kernel_rfl)) (fun _ _ _ h => h) (Or.inl ⟨by rfl, ?_⟩) ?_ ?_
  rotate_left
  ·intro w'
   go_simp
   with_reducible rfl
  rotate_left
  ·simp only [Act.put, List.setIfInBounds_toArray, List.set_cons_zero, List.set_cons_succ, i64_w, i32_w]
   rfl
  refine take_ (i := 11) (N := some 60) (v := ?_) (a' := ?_) (tf 12 47) rfl rfl (take_ofW HT_.out HW_.out (by kernel_rfl)) (fun _ _ _ h => h) (Or.inl ⟨by rfl, ?_⟩) hHeld ?_ ?_
  rotate_left
  ·intro w' s0
   obtain ⟨x0, _⟩ := bk1 (blk_below G9.out s0)
   go_simp
   with_reducible rfl
  rotate_left
  ·simp only [Act.put, List.setIfInBounds_toArray, List.set_cons_zero, List.set_cons_succ, i64_w, i32_w]
   rfl
  refine take_ (i := 12) (N := some 61) (v := ?_) (a' := ?_) (tf 13 46) rfl rfl (take_ofW HT_.out HW_.out (by kernel_rfl)) (fun _ _ _ h => h) (Or.inl ⟨by rfl, ?_⟩) hHeld ?_ ?_
  rotate_left
  ·intro w' s0
   obtain ⟨x0, _⟩ := bk1 (blk_below G12.out s0)
   go_simp
   with_reducible rfl
  rotate_left
  ·simp only [Act.put, List.setIfInBounds_toArray, List.set_cons_zero, List.set_cons_succ, i64_w, i32_w]
   rfl
  refine one_ (i := 13) (N := some 62) (tf 14 45) rfl rfl (one_of HT_.out (by kernel_rfl)) (by decide) (fun K hK => ?_)
  refine goes_ Tryd.func23 (by kernel_rfl) rfl #[.agg #[.map (some bx)], .agg #[.map (some bp)]] (by rfl) rfl rfl (by simp only [List.map_toArray, List.map_cons, List.map_nil]; rfl) ?_
  refine (within_p true (some bx) (some bp) X P _ (HSX.out.below hHeld) (HSP.out.below hHeld) HXP.out).mono ?_
  rintro e w913 ⟨rfl, hb⟩
  refine ⟨_, rfl, ?_⟩
  refine hK.out _ _ (below_step hHeld hb) (fun hHeld => ?_)
  clear hK K
  refine norm_ (a' := ?_) ?_ ?_
  rotate_left
  ·show Act.put _ (some 62) _ = _
   simp only [Act.put, List.setIfInBounds_toArray, List.set_cons_zero, List.set_cons_succ, i64_w, i32_w]
   rfl
  refine pure_ (i := 14) (N := some 63) (v := ?_) (a' := ?_) (tf 15 44) rfl rfl (any_of HT_.out (by kernel_rfl)) (fun _ _ _ h => h) (Or.inl ⟨by rfl, ?_⟩) ?_ ?_
  rotate_left
  ·intro w'
   go_simp
   with_reducible rfl
  rotate_left
  ·simp only [Act.put, List.setIfInBounds_toArray, List.set_cons_zero, List.set_cons_succ, i64_w, i32_w]
   rfl
  refine pure_ (i := 15) (N := some 64) (v := ?_) (a' := ?_) (tf 16 43) rfl rfl (any_of HT_.out (by kernel_rfl)) (fun _ _ _ h => h) (Or.inl ⟨by rfl, ?_⟩) ?_ ?_
  rotate_left
  ·intro w'
   go_simp
   with_reducible rfl
  rotate_left
  ·simp only [Act.put, List.setIfInBounds_toArray, List.set_cons_zero, List.set_cons_succ, i64_w, i32_w]
   rfl
  refine pure_ (i := 16) (N := some 65) (v := ?_) (a' := ?_) (tf 17 42) rfl rfl (any_of HT_.out (by kernel_rfl)) (fun _ _ _ h => h) (Or.inl ⟨by rfl, ?_⟩) ?_ ?_
  rotate_left
  ·intro w'
   go_simp
   with_reducible rfl
  rotate_left
  ·simp only [Act.put, List.setIfInBounds_toArray, List.set_cons_zero, List.set_cons_succ, i64_w, i32_w]
   rfl
  refine take_ (i := 17) (N := some 66) (v := ?_) (a' := ?_) (tf 18 41) rfl rfl (take_ofW HT_.out HW_.out (by kernel_rfl)) (fun _ _ _ h => h) (Or.inl ⟨by rfl, ?_⟩) hHeld ?_ ?_
  rotate_left
  ·intro w' s0
   obtain ⟨x0, _⟩ := bk1 (blk_below G12.out s0)
   go_simp
   with_reducible rfl
  rotate_left
  ·simp only [Act.put, List.setIfInBounds_toArray, List.set_cons_zero, List.set_cons_succ, i64_w, i32_w]
   rfl
  refine take_ (i := 19) (N := some 68) (v := ?_) (a' := ?_) #[true, true, true, true, true, true, true, true, true, true, true, true, true, true, true, true, true, true, false, true, false, false, false, false, false, false, false, false, false, false, false, false, false, false, false, false, false, false, false, false, false, false, false, false, false, false, false, false, false, false, false, false, false, false, false, false, false, false, false] rfl rfl (take_ofW HT_.out HW_.out (by kernel_rfl)) (fun _ _ _ h => h) (Or.inl ⟨by rfl, ?_⟩) hHeld ?_ ?_
  rotate_left
  ·intro w' s0
   obtain ⟨x0, _⟩ := bk1 (blk_below G13.out s0)
   go_simp
   with_reducible rfl
  rotate_left
  ·simp only [Act.put, List.setIfInBounds_toArray, List.set_cons_zero, List.set_cons_succ, i64_w, i32_w]
   rfl
  refine one_ (i := 18) (N := some 67) (tf 20 39) rfl rfl (one_of HT_.out (by kernel_rfl)) (by decide) (fun K hK => ?_)
  refine goes_ Tryd.func26 (by kernel_rfl) rfl #[.agg #[.map (some bp)]] (by rfl) rfl rfl (by simp only [List.map_toArray, List.map_cons, List.map_nil]; rfl) ?_
  refine (set_Len (some bp) P _ (HSP.out.below hHeld)).mono ?_
  rintro e w918 ⟨rfl, hb⟩
  refine ⟨_, rfl, ?_⟩
  refine hK.out _ _ (below_step hHeld hb) (fun hHeld => ?_)
  clear hK K
  refine norm_ (a' := ?_) ?_ ?_
  rotate_left
  ·show Act.put _ (some 67) _ = _
   simp only [Act.put, List.setIfInBounds_toArray, List.set_cons_zero, List.set_cons_succ, i64_w, i32_w]
   rfl
  refine one_ (i := 20) (N := some 69) (tf 21 38) rfl rfl (one_of HT_.out (by kernel_rfl)) (by decide) (fun K hK => ?_)
  refine goes_ Tryd.func26 (by kernel_rfl) rfl #[.agg #[.map (some bq)]] (by rfl) rfl rfl (by simp only [List.map_toArray, List.map_cons, List.map_nil]; rfl) ?_
  refine (set_Len (some bq) P _ (HSQ.out.below hHeld)).mono ?_
  rintro e w920 ⟨rfl, hb⟩
  refine ⟨_, rfl, ?_⟩
  refine hK.out _ _ (below_step hHeld hb) (fun hHeld => ?_)
  clear hK K
  refine norm_ (a' := ?_) ?_ ?_
  rotate_left
  ·show Act.put _ (some 69) _ = _
   simp only [Act.put, List.setIfInBounds_toArray, List.set_cons_zero, List.set_cons_succ, i64_w, i32_w]
   rfl
  refine pure_ (i := 21) (N := some 70) (v := ?_) (a' := ?_) (tf 22 37) rfl rfl (any_of HT_.out (by kernel_rfl)) (fun _ _ _ h => h) (Or.inl ⟨by rfl, ?_⟩) ?_ ?_
  rotate_left
  ·intro w'
   go_simp
   with_reducible rfl
  rotate_left
  ·simp only [Act.put, List.setIfInBounds_toArray, List.set_cons_zero, List.set_cons_succ, i64_w, i32_w]
   rfl
  refine pure_ (i := 22) (N := some 71) (v := ?_) (a' := ?_) (tf 23 36) rfl rfl (any_of HT_.out (by kernel_rfl)) (fun _ _ _ h => h) (Or.inl ⟨by rfl, ?_⟩) ?_ ?_
  rotate_left
  ·intro w'
   go_simp
   with_reducible rfl
  rotate_left
  ·simp only [Act.put, List.setIfInBounds_toArray, List.set_cons_zero, List.set_cons_succ, i64_w, i32_w]
   rfl
  refine pure_ (i := 23) (N := some 72) (v := ?_) (a' := ?_) (tf 24 35) rfl rfl (any_of HT_.out (by kernel_rfl)) (fun _ _ _ h => h) (Or.inl ⟨by rfl, ?_⟩) ?_ ?_
  rotate_left
  ·intro w'
   go_simp
   with_reducible rfl
  rotate_left
  ·simp only [Act.put, List.setIfInBounds_toArray, List.set_cons_zero, List.set_cons_succ, i64_w, i32_w]
   rfl
  refine take_ (i := 24) (N := some 73) (v := ?_) (a' := ?_) (tf 25 34) rfl rfl (take_ofW HT_.out HW_.out (by kernel_rfl)) (fun _ _ _ h => h) (Or.inl ⟨by rfl, ?_⟩) hHeld ?_ ?_
  rotate_left
  ·intro w' s0
   obtain ⟨x0, _⟩ := bk1 (blk_below G12.out s0)
   go_simp
   with_reducible rfl
  rotate_left
  ·simp only [Act.put, List.setIfInBounds_toArray, List.set_cons_zero, List.set_cons_succ, i64_w, i32_w]
   rfl
  refine take_ (i := 25) (N := some 74) (v := ?_) (a' := ?_) (tf 26 33) rfl rfl (take_ofW HT_.out HW_.out (by kernel_rfl)) (fun _ _ _ h => h) (Or.inl ⟨by rfl, ?_⟩) hHeld ?_ ?_
  rotate_left
  ·intro w' s0
   obtain ⟨x0, x1, x2, _⟩ := bk3 (blk_below H7.out s0)
   go_simp
   with_reducible rfl
  rotate_left
  ·simp only [Act.put, List.setIfInBounds_toArray, List.set_cons_zero, List.set_cons_succ, i64_w, i32_w]
   rfl
  refine take_ (i := 27) (N := some 76) (v := ?_) (a' := ?_) #[true, true, true, true, true, true, true, true, true, true, true, true, true, true, true, true, true, true, true, true, true, true, true, true, true, true, false, true, false, false, false, false, false, false, false, false, false, false, false, false, false, false, false, false, false, false, false, false, false, false, false, false, false, false, false, false, false, false, false] rfl rfl (take_ofW HT_.out HW_.out (by kernel_rfl)) (fun _ _ _ h => h) (Or.inl ⟨by rfl, ?_⟩) hHeld ?_ ?_
  rotate_left
  ·intro w' s0
   obtain ⟨x0, _⟩ := bk1 (blk_below G9.out s0)
   go_simp
   with_reducible rfl
  rotate_left
  ·simp only [Act.put, List.setIfInBounds_toArray, List.set_cons_zero, List.set_cons_succ, i64_w, i32_w]
   rfl
  refine take_ (i := 28) (N := some 77) (v := ?_) (a' := ?_) #[true, true, true, true, true, true, true, true, true, true, true, true, true, true, true, true, true, true, true, true, true, true, true, true, true, true, false, true, true, false, false, false, false, false, false, false, false, false, false, false, false, false, false, false, false, false, false, false, false, false, false, false, false, false, false, false, false, false, false] rfl rfl (take_ofW HT_.out HW_.out (by kernel_rfl)) (fun _ _ _ h => h) (Or.inl ⟨by rfl, ?_⟩) hHeld ?_ ?_
  rotate_left
  ·intro w' s0
   obtain ⟨x0, x1, x2, _⟩ := bk3 (blk_below H7.out s0)
   go_simp
   with_reducible rfl
  rotate_left
  ·simp only [Act.put, List.setIfInBounds_toArray, List.set_cons_zero, List.set_cons_succ, i64_w, i32_w]
   rfl
  refine one_ (i := 26) (N := some 75) (tf 29 30) rfl rfl (one_of HT_.out (by kernel_rfl)) (by decide) (fun K hK => ?_)
  refine goes_ Tryd.func25 (by kernel_rfl) rfl #[.agg #[.map (some bp)], .agg #[.int .i64 n0, .int .i64 n1, .string n2]] (by rfl) rfl rfl (by simp only [List.map_toArray, List.map_cons, List.map_nil]; rfl) ?_
  refine (has_q true (some bp) P ⟨n0, n1, n2⟩ _ (HSP.out.below hHeld) HWN.out HNP.out).mono ?_
  rintro e w926 ⟨rfl, hb⟩
  refine ⟨_, rfl, ?_⟩
  refine hK.out _ _ (below_step hHeld hb) (fun hHeld => ?_)
  clear hK K
  refine norm_ (a' := ?_) ?_ ?_
  rotate_left
  ·show Act.put _ (some 75) _ = _
   simp only [Act.put, List.setIfInBounds_toArray, List.set_cons_zero, List.set_cons_succ, i64_w, i32_w]
   rfl
  refine one_ (i := 29) (N := some 78) (tf 30 29) rfl rfl (one_of HT_.out (by kernel_rfl)) (by decide) (fun K hK => ?_)
  refine goes_ Tryd.func25 (by kernel_rfl) rfl #[.agg #[.map (some bx)], .agg #[.int .i64 n0, .int .i64 n1, .string n2]] (by rfl) rfl rfl (by simp only [List.map_toArray, List.map_cons, List.map_nil]; rfl) ?_
  refine (has_q true (some bx) X ⟨n0, n1, n2⟩ _ (HSX.out.below hHeld) HWN.out HNX.out).mono ?_
  rintro e w929 ⟨rfl, hb⟩
  refine ⟨_, rfl, ?_⟩
  refine hK.out _ _ (below_step hHeld hb) (fun hHeld => ?_)
  clear hK K
  refine norm_ (a' := ?_) ?_ ?_
  rotate_left
  ·show Act.put _ (some 78) _ = _
   simp only [Act.put, List.setIfInBounds_toArray, List.set_cons_zero, List.set_cons_succ, i64_w, i32_w]
   rfl
  refine pure_ (i := 30) (N := some 79) (v := ?_) (a' := ?_) (tf 31 28) rfl rfl (any_of HT_.out (by kernel_rfl)) (fun _ _ _ h => h) (Or.inl ⟨by rfl, ?_⟩) ?_ ?_
  rotate_left
  ·intro w'
   go_simp
   with_reducible rfl
  rotate_left
  ·simp only [Act.put, List.setIfInBounds_toArray, List.set_cons_zero, List.set_cons_succ, i64_w, i32_w]
   rfl
  refine pure_ (i := 31) (N := some 80) (v := undef) (a' := ?_) (tf 32 27) rfl rfl (any_of HT_.out (by kernel_rfl)) (fun _ _ _ h => h) (Or.inr ⟨by rfl, rfl⟩) ?_ ?_
  rotate_left
  ·simp only [Act.put, List.setIfInBounds_toArray, List.set_cons_zero, List.set_cons_succ, i64_w, i32_w]
   rfl
  refine pure_ (i := 32) (N := some 81) (v := undef) (a' := ?_) (tf 33 26) rfl rfl (any_of HT_.out (by kernel_rfl)) (fun _ _ _ h => h) (Or.inr ⟨by rfl, rfl⟩) ?_ ?_
  rotate_left
  ·simp only [Act.put, List.setIfInBounds_toArray, List.set_cons_zero, List.set_cons_succ, i64_w, i32_w]
   rfl
  refine pure_ (i := 33) (N := some 82) (v := undef) (a' := ?_) (tf 34 25) rfl rfl (any_of HT_.out (by kernel_rfl)) (fun _ _ _ h => h) (Or.inr ⟨by rfl, rfl⟩) ?_ ?_
  rotate_left
  ·simp only [Act.put, List.setIfInBounds_toArray, List.set_cons_zero, List.set_cons_succ, i64_w, i32_w]
   rfl
  refine pure_ (i := 34) (N := some 83) (v := ?_) (a' := ?_) (tf 35 24) rfl rfl (any_of HT_.out (by kernel_rfl)) (fun _ _ _ h => h) (Or.inl ⟨by rfl, ?_⟩) ?_ ?_
  rotate_left
  ·intro w'
   go_simp
   with_reducible rfl
  rotate_left
  ·simp only [Act.put, List.setIfInBounds_toArray, List.set_cons_zero, List.set_cons_succ, i64_w, i32_w]
   rfl
  refine pure_ (i := 35) (N := some 84) (v := ?_) (a' := ?_) (tf 36 23) rfl rfl (any_of HT_.out (by kernel_rfl)) (fun _ _ _ h => h) (Or.inl ⟨by rfl, ?_⟩) ?_ ?_
  rotate_left
  ·intro w'
   go_simp
   with_reducible rfl
  rotate_left
  ·simp only [Act.put, List.setIfInBounds_toArray, List.set_cons_zero, List.set_cons_succ, i64_w, i32_w]
   rfl
  refine pure_ (i := 36) (N := some 85) (v := undef) (a' := ?_) (tf 37 22) rfl rfl (any_of HT_.out (by kernel_rfl)) (fun _ _ _ h => h) (Or.inr ⟨by rfl, rfl⟩) ?_ ?_
  rotate_left
  ·simp only [Act.put, List.setIfInBounds_toArray, List.set_cons_zero, List.set_cons_succ, i64_w, i32_w]
   rfl
  refine pure_ (i := 37) (N := some 86) (v := undef) (a' := ?_) (tf 38 21) rfl rfl (any_of HT_.out (by kernel_rfl)) (fun _ _ _ h => h) (Or.inr ⟨by rfl, rfl⟩) ?_ ?_
  rotate_left
  ·simp only [Act.put, List.setIfInBounds_toArray, List.set_cons_zero, List.set_cons_succ, i64_w, i32_w]
   rfl
  refine pure_ (i := 38) (N := some 87) (v := undef) (a' := ?_) (tf 39 20) rfl rfl (any_of HT_.out (by kernel_rfl)) (fun _ _ _ h => h) (Or.inr ⟨by rfl, rfl⟩) ?_ ?_
  rotate_left
  ·simp only [Act.put, List.setIfInBounds_toArray, List.set_cons_zero, List.set_cons_succ, i64_w, i32_w]
   rfl
  refine pure_ (i := 39) (N := some 88) (v := ?_) (a' := ?_) (tf 40 19) rfl rfl (any_of HT_.out (by kernel_rfl)) (fun _ _ _ h => h) (Or.inl ⟨by rfl, ?_⟩) ?_ ?_
  rotate_left
  ·intro w'
   go_simp
   with_reducible rfl
  rotate_left
  ·simp only [Act.put, List.setIfInBounds_toArray, List.set_cons_zero, List.set_cons_succ, i64_w, i32_w]
   rfl
  refine pure_ (i := 40) (N := some 89) (v := ?_) (a' := ?_) (tf 41 18) rfl rfl (any_of HT_.out (by kernel_rfl)) (fun _ _ _ h => h) (Or.inl ⟨by rfl, ?_⟩) ?_ ?_
  rotate_left
  ·intro w'
   go_simp
   with_reducible rfl
  rotate_left
  ·simp only [Act.put, List.setIfInBounds_toArray, List.set_cons_zero, List.set_cons_succ, i64_w, i32_w]
   rfl
  refine pure_ (i := 41) (N := some 90) (v := ?_) (a' := ?_) (tf 42 17) rfl rfl (any_of HT_.out (by kernel_rfl)) (fun _ _ _ h => h) (Or.inl ⟨by rfl, ?_⟩) ?_ ?_
  rotate_left
  ·intro w'
   go_simp
   with_reducible rfl
  rotate_left
  ·simp only [Act.put, List.setIfInBounds_toArray, List.set_cons_zero, List.set_cons_succ, i64_w, i32_w]
   rfl
  refine pure_ (i := 42) (N := some 91) (v := ?_) (a' := ?_) (tf 43 16) rfl rfl (any_of HT_.out (by kernel_rfl)) (fun _ _ _ h => h) (Or.inl ⟨by rfl, ?_⟩) ?_ ?_
  rotate_left
  ·intro w'
   go_simp
   with_reducible rfl
  rotate_left
  ·simp only [Act.put, List.setIfInBounds_toArray, List.set_cons_zero, List.set_cons_succ, i64_w, i32_w]
   rfl
  refine take_ (i := 43) (N := some 92) (v := ?_) (a' := ?_) (tf 44 15) rfl rfl (take_ofW HT_.out HW_.out (by kernel_rfl)) (fun _ _ _ h => h) (Or.inl ⟨by rfl, ?_⟩) hHeld ?_ ?_
  rotate_left
  ·intro w' s0
   obtain ⟨x0, _⟩ := bk1 (blk_below G12.out s0)
   go_simp
   with_reducible rfl
  rotate_left
  ·simp only [Act.put, List.setIfInBounds_toArray, List.set_cons_zero, List.set_cons_succ, i64_w, i32_w]
   rfl
  refine take_ (i := 44) (N := some 93) (v := ?_) (a' := ?_) (tf 45 14) rfl rfl (take_ofW HT_.out HW_.out (by kernel_rfl)) (fun _ _ _ h => h) (Or.inl ⟨by rfl, ?_⟩) hHeld ?_ ?_
  rotate_left
  ·intro w' s0
   obtain ⟨x0, _⟩ := bk1 (blk_below G9.out s0)
   go_simp
   with_reducible rfl
  rotate_left
  ·simp only [Act.put, List.setIfInBounds_toArray, List.set_cons_zero, List.set_cons_succ, i64_w, i32_w]
   rfl
  refine take_ (i := 47) (N := some 96) (v := ?_) (a' := ?_) #[true, true, true, true, true, true, true, true, true, true, true, true, true, true, true, true, true, true, true, true, true, true, true, true, true, true, true, true, true, true, true, true, true, true, true, true, true, true, true, true, true, true, true, true, true, false, false, true, false, false, false, false, false, false, false, false, false, false, false] rfl rfl (take_ofW HT_.out HW_.out (by kernel_rfl)) (fun _ _ _ h => h) (Or.inl ⟨by rfl, ?_⟩) hHeld ?_ ?_
  rotate_left
  ·intro w' s0
   obtain ⟨x0, _⟩ := bk1 (blk_below G12.out s0)
   go_simp
   with_reducible rfl
  rotate_left
  ·simp only [Act.put, List.setIfInBounds_toArray, List.set_cons_zero, List.set_cons_succ, i64_w, i32_w]
   rfl
  refine one_ (i := 45) (N := some 94) #[true, true, true, true, true, true, true, true, true, true, true, true, true, true, true, true, true, true, true, true, true, true, true, true, true, true, true, true, true, true, true, true, true, true, true, true, true, true, true, true, true, true, true, true, true, true, false, true, false, false, false, false, false, false, false, false, false, false, false] rfl rfl (one_of HT_.out (by kernel_rfl)) (by decide) (fun K hK => ?_)
  refine goes_ Tryd.func21 (by kernel_rfl) rfl #[.agg #[.map (some bp)], .agg #[.map (some bx)]] (by rfl) rfl rfl (by simp only [List.map_toArray, List.map_cons, List.map_nil]; rfl) ?_
  refine (set_Join (some bp) (some bx) P X _ (HSP.out.below hHeld) (HSX.out.below hHeld) (by have := HLX.out; have := HLP.out; omega)).mono ?_
  rintro e w945 ⟨b45, rfl, _, hs45, hb⟩
  refine ⟨_, rfl, ?_⟩
  rw [HPX.out] at hs45
  have HS45 := Aside0.mk hs45
  clear hs45
  refine hK.out _ _ (below_step hHeld hb) (fun hHeld => ?_)
  clear hK K
  refine norm_ (a' := ?_) ?_ ?_
  rotate_left
  ·show Act.put _ (some 94) _ = _
   simp only [Act.put, List.setIfInBounds_toArray, List.set_cons_zero, List.set_cons_succ, i64_w, i32_w]
   rfl
  refine one_ (i := 46) (N := some 95) (tf 48 11) rfl rfl (one_of HT_.out (by kernel_rfl)) (by decide) (fun K hK => ?_)
  refine goes_ Tryd.func26 (by kernel_rfl) rfl #[.agg #[.map (some b45)]] (by rfl) rfl rfl (by simp only [List.map_toArray, List.map_cons, List.map_nil]; rfl) ?_
  refine (set_Len (some b45) P _ HS45.out).mono ?_
  rintro e w946 ⟨rfl, hb⟩
  refine ⟨_, rfl, ?_⟩
  refine hK.out _ _ (below_step hHeld hb) (fun hHeld => ?_)
  clear hK K
  refine norm_ (a' := ?_) ?_ ?_
  rotate_left
  ·show Act.put _ (some 95) _ = _
   simp only [Act.put, List.setIfInBounds_toArray, List.set_cons_zero, List.set_cons_succ, i64_w, i32_w]
   rfl
  refine one_ (i := 48) (N := some 97) (tf 49 10) rfl rfl (one_of HT_.out (by kernel_rfl)) (by decide) (fun K hK => ?_)
  refine goes_ Tryd.func26 (by kernel_rfl) rfl #[.agg #[.map (some bp)]] (by rfl) rfl rfl (by simp only [List.map_toArray, List.map_cons, List.map_nil]; rfl) ?_
  refine (set_Len (some bp) P _ (HSP.out.below hHeld)).mono ?_
  rintro e w948 ⟨rfl, hb⟩
  refine ⟨_, rfl, ?_⟩
  refine hK.out _ _ (below_step hHeld hb) (fun hHeld => ?_)
  clear hK K
  refine norm_ (a' := ?_) ?_ ?_
  rotate_left
  ·show Act.put _ (some 97) _ = _
   simp only [Act.put, List.setIfInBounds_toArray, List.set_cons_zero, List.set_cons_succ, i64_w, i32_w]
   rfl
  refine pure_ (i := 49) (N := some 98) (v := ?_) (a' := ?_) (tf 50 9) rfl rfl (any_of HT_.out (by kernel_rfl)) (fun _ _ _ h => h) (Or.inl ⟨by rfl, ?_⟩) ?_ ?_
  rotate_left
  ·intro w'
   go_simp
   with_reducible rfl
  rotate_left
  ·simp only [Act.put, List.setIfInBounds_toArray, List.set_cons_zero, List.set_cons_succ, i64_w, i32_w]
   rfl
  refine pure_ (i := 50) (N := some 99) (v := ?_) (a' := ?_) (tf 51 8) rfl rfl (any_of HT_.out (by kernel_rfl)) (fun _ _ _ h => h) (Or.inl ⟨by rfl, ?_⟩) ?_ ?_
  rotate_left
  ·intro w'
   go_simp
   with_reducible rfl
  rotate_left
  ·simp only [Act.put, List.setIfInBounds_toArray, List.set_cons_zero, List.set_cons_succ, i64_w, i32_w]
   rfl
  refine pure_ (i := 51) (N := some 100) (v := ?_) (a' := ?_) (tf 52 7) rfl rfl (any_of HT_.out (by kernel_rfl)) (fun _ _ _ h => h) (Or.inl ⟨by rfl, ?_⟩) ?_ ?_
  rotate_left
  ·intro w'
   go_simp
   with_reducible rfl
  rotate_left
  ·simp only [Act.put, List.setIfInBounds_toArray, List.set_cons_zero, List.set_cons_succ, i64_w, i32_w]
   rfl
  refine take_ (i := 52) (N := some 101) (v := ?_) (a' := ?_) (tf 53 6) rfl rfl (take_ofW HT_.out HW_.out (by kernel_rfl)) (fun _ _ _ h => h) (Or.inl ⟨by rfl, ?_⟩) hHeld ?_ ?_
  rotate_left
  ·intro w' s0
   obtain ⟨x0, _⟩ := bk1 (blk_below G9.out s0)
   go_simp
   with_reducible rfl
  rotate_left
  ·simp only [Act.put, List.setIfInBounds_toArray, List.set_cons_zero, List.set_cons_succ, i64_w, i32_w]
   rfl
  refine take_ (i := 53) (N := some 102) (v := ?_) (a' := ?_) (tf 54 5) rfl rfl (take_ofW HT_.out HW_.out (by kernel_rfl)) (fun _ _ _ h => h) (Or.inl ⟨by rfl, ?_⟩) hHeld ?_ ?_
  rotate_left
  ·intro w' s0
   obtain ⟨x0, x1, x2, _⟩ := bk3 (blk_below H7.out s0)
   go_simp
   with_reducible rfl
  rotate_left
  ·simp only [Act.put, List.setIfInBounds_toArray, List.set_cons_zero, List.set_cons_succ, i64_w, i32_w]
   rfl
  refine take_ (i := 55) (N := some 104) (v := ?_) (a' := ?_) #[true, true, true, true, true, true, true, true, true, true, true, true, true, true, true, true, true, true, true, true, true, true, true, true, true, true, true, true, true, true, true, true, true, true, true, true, true, true, true, true, true, true, true, true, true, true, true, true, true, true, true, true, true, true, false, true, false, false, false] rfl rfl (take_ofW HT_.out HW_.out (by kernel_rfl)) (fun _ _ _ h => h) (Or.inl ⟨by rfl, ?_⟩) hHeld ?_ ?_
  rotate_left
  ·intro w' s0
   obtain ⟨x0, x1, x2, _⟩ := bk3 (blk_below H7.out s0)
   go_simp
   with_reducible rfl
  rotate_left
  ·simp only [Act.put, List.setIfInBounds_toArray, List.set_cons_zero, List.set_cons_succ, i64_w, i32_w]
   rfl
  refine one_ (i := 54) (N := some 103) (tf 56 3) rfl rfl (one_of HT_.out (by kernel_rfl)) (by decide) (fun K hK => ?_)
  refine goes_ Tryd.func22 (by kernel_rfl) rfl #[.agg #[.map (some bx)], .agg #[.int .i64 n0, .int .i64 n1, .string n2]] (by rfl) rfl rfl (by simp only [List.map_toArray, List.map_cons, List.map_nil]; rfl) ?_
  refine (set_With (some bx) X ⟨n0, n1, n2⟩ _ (HSX.out.below hHeld) HWN.out (by have := HLX.out; omega)).mono ?_
  rintro e w954 ⟨b54, rfl, _, hs54, hb⟩
  refine ⟨_, rfl, ?_⟩
  have HS54 := Aside0.mk hs54
  clear hs54
  refine hK.out _ _ (below_step hHeld hb) (fun hHeld => ?_)
  clear hK K
  refine norm_ (a' := ?_) ?_ ?_
  rotate_left
  ·show Act.put _ (some 103) _ = _
   simp only [Act.put, List.setIfInBounds_toArray, List.set_cons_zero, List.set_cons_succ, i64_w, i32_w]
   rfl
  refine one_ (i := 56) (N := some 105) (tf 57 2) rfl rfl (one_of HT_.out (by kernel_rfl)) (by decide) (fun K hK => ?_)
  refine goes_ Tryd.func25 (by kernel_rfl) rfl #[.agg #[.map (some b54)], .agg #[.int .i64 n0, .int .i64 n1, .string n2]] (by rfl) rfl rfl (by simp only [List.map_toArray, List.map_cons, List.map_nil]; rfl) ?_
  refine (has_q true (some b54) (addR X ⟨n0, n1, n2⟩) ⟨n0, n1, n2⟩ _ HS54.out HWN.out HXN.out).mono ?_
  rintro e w956 ⟨rfl, hb⟩
  refine ⟨_, rfl, ?_⟩
  refine hK.out _ _ (below_step hHeld hb) (fun hHeld => ?_)
  clear hK K
  refine norm_ (a' := ?_) ?_ ?_
  rotate_left
  ·show Act.put _ (some 105) _ = _
   simp only [Act.put, List.setIfInBounds_toArray, List.set_cons_zero, List.set_cons_succ, i64_w, i32_w]
   rfl
  refine pure_ (i := 57) (N := some 106) (v := ?_) (a' := ?_) (tf 58 1) rfl rfl (any_of HT_.out (by kernel_rfl)) (fun _ _ _ h => h) (Or.inl ⟨by rfl, ?_⟩) ?_ ?_
  rotate_left
  ·intro w'
   go_simp
   with_reducible rfl
  rotate_left
  ·simp only [Act.put, List.setIfInBounds_toArray, List.set_cons_zero, List.set_cons_succ, i64_w, i32_w]
   rfl
  refine pure_ (i := 58) (N := some 107) (v := ?_) (a' := ?_) (tf 59 0) rfl rfl (any_of HT_.out (by kernel_rfl)) (fun _ _ _ h => h) (Or.inl ⟨by rfl, ?_⟩) ?_ ?_
  rotate_left
  ·intro w'
   go_simp
   with_reducible rfl
  rotate_left
  ·simp only [Act.put, List.setIfInBounds_toArray, List.set_cons_zero, List.set_cons_succ, i64_w, i32_w]
   rfl
  refine done_ (done_of HT_.out (by kernel_rfl)) ?_
  have hp1 := bk1 (blk_below G12.out hHeld)
  go_wp2_with fail
  clear hp1
  refine (set_List (some bp) P _ (HSP.out.below hHeld) (by have := HLP.out; omega)).mono ?_
  rintro e wl ⟨vl, rfl, hrl, hb⟩
  obtain ⟨Al, cl, el⟩ := Kd.R_slice hrl
  subst el
  have HL := Aside0.mk (Kd.R_reads' hrl).2.2
  have HBL := Aside0.mk (below_step HB.out (below_step hHeld hb))
  clear hrl hb hHeld HT_ HW_ HSX HSY HSZ HSP HSQ G9 G10 G11 G12 G13 H7 HB
  have hpl : P.length ≤ 1000 := by have := HLP.out; omega
  go_upto_region 14 with (fail)
  go_loopw [15] (fun v15 wr => ∃ (i : Nat), v15 = .int .i64 i ∧ i ≤ P.length ∧ Aside0 (Below wl.heap.size wl wr)) (fun v15 _ => P.length - (intOf v15).toNat)
  case atStart => exact ⟨0, rfl, Nat.zero_le _, ⟨Below.refl _ _⟩⟩
  case round =>
   obtain ⟨i, rfl, hi, HW⟩ := hrel
   by_cases hlt : i < P.length
   ·go_upto_region 17 with (fail)
    go_loopw [16] (fun v16 wq => ∃ (k : Nat), v16 = .int .i64 k ∧ k ≤ P.length ∧ Aside0 (Below wl.heap.size wl wq)) (fun v16 _ => P.length - (intOf v16).toNat)
    case atStart => exact ⟨0, rfl, Nat.zero_le _, HW⟩
    case round =>
     clear HW
     obtain ⟨k, rfl, hk, HW⟩ := hrel
     by_cases hlk : k < P.length
     ·obtain ⟨x, ex⟩ : ∃ x, x = P[i] := ⟨_, rfl⟩
      obtain ⟨y, ey⟩ : ∃ y, y = P[k] := ⟨_, rfl⟩
      obtain ⟨adx, e, _⟩ := at_T24 HL.out (i : Int) (by omega) (by omega)
      subst e
      have hrx : rd_T24 P (i : Int) = x := by rw [ex]; unfold rd_T24; rw [Int.toNat_natCast]; simp [hlt]
      have hry : rd_T24 P (k : Int) = y := by rw [ey]; unfold rd_T24; rw [Int.toNat_natCast]; simp [hlk]
      have HCX : Aside0 (∀ w', Below wl.heap.size wl w' → w'.cell? (adx.add (i * 3)) = some (.int .i64 x.f0) ∧ w'.cell? ⟨(adx.add (i * 3)).block, (adx.add (i * 3)).off + 1, none⟩ = some (.int .i64 x.f1) ∧ w'.cell? ⟨(adx.add (i * 3)).block, (adx.add (i * 3)).off + 2, none⟩ = some (.string x.f2)) := ⟨fun w' hb => by
       obtain ⟨ad, e, h0, h1, h2⟩ := at_T24 (Kd.C_below HL.out hb) (i : Int) (by omega) (by omega)
       cases e
       rw [hrx] at h0 h1 h2
       exact ⟨h0, h1, h2⟩⟩
      have HCY : Aside0 (∀ w', Below wl.heap.size wl w' → w'.cell? (adx.add (k * 3)) = some (.int .i64 y.f0) ∧ w'.cell? ⟨(adx.add (k * 3)).block, (adx.add (k * 3)).off + 1, none⟩ = some (.int .i64 y.f1) ∧ w'.cell? ⟨(adx.add (k * 3)).block, (adx.add (k * 3)).off + 2, none⟩ = some (.string y.f2)) := ⟨fun w' hb => by
       obtain ⟨ad, e, h0, h1, h2⟩ := at_T24 (Kd.C_below HL.out hb) (k : Int) (by omega) (by omega)
       cases e
       rw [hry] at h0 h1 h2
       exact ⟨h0, h1, h2⟩⟩
      obtain ⟨e1, e2, e3⟩ := cmp_at HUP.out hlt hlk
      rw [← ex, ← ey] at e1 e2 e3
      obtain ⟨d, hd⟩ : ∃ d, cmpN x y = d := ⟨_, rfl⟩
      obtain ⟨d2, hd2⟩ : ∃ d, cmpN y x = d := ⟨_, rfl⟩
      rw [hd] at e1 e2 e3
      rw [hd2] at e3
      have HD := Aside0.mk hd; have HD2 := Aside0.mk hd2; have HE1 := Aside0.mk e1; have HE2 := Aside0.mk e2; have HE3 := Aside0.mk e3
      clear hrx hry ex ey e1 e2 e3 hd hd2
      go_upto_region 19 with (fail)
      refine start_ (n := 10) (S := fun w' => Below wr.heap.size wr w') (ds := []) (tf 0 10) (by kernel_rfl) rfl rfl ((below_drew1 (Below.refl _ _))) (fun hHeld => ?_)
      refine with_tabW lawJoins.tab19 lawJoins.bits19 (fun HT_ HW_ => ?_)
      refine pure_ (i := 0) (N := some 122) (v := ?_) (a' := ?_) (tf 1 9) rfl rfl (any_of HT_.out (by kernel_rfl)) (fun _ _ _ h => h) (Or.inl ⟨by rfl, ?_⟩) ?_ ?_
      rotate_left
      ·intro w'
       go_simp
       with_reducible rfl
      rotate_left
      ·simp only [Act.put, List.setIfInBounds_toArray, List.set_cons_zero, List.set_cons_succ, i64_w, i32_w]
       rfl
      refine pure_ (i := 1) (N := some 123) (v := ?_) (a' := ?_) (tf 2 8) rfl rfl (any_of HT_.out (by kernel_rfl)) (fun _ _ _ h => h) (Or.inl ⟨by rfl, ?_⟩) ?_ ?_
      rotate_left
      ·intro w'
       go_simp
       with_reducible rfl
      rotate_left
      ·simp only [Act.put, List.setIfInBounds_toArray, List.set_cons_zero, List.set_cons_succ, i64_w, i32_w]
       rfl
      refine pure_ (i := 2) (N := some 124) (v := ?_) (a' := ?_) (tf 3 7) rfl rfl (any_of HT_.out (by kernel_rfl)) (fun _ _ _ h => h) (Or.inl ⟨by rfl, ?_⟩) ?_ ?_
      rotate_left
      ·intro w'
       go_simp
       with_reducible rfl
      rotate_left
      ·simp only [Act.put, List.setIfInBounds_toArray, List.set_cons_zero, List.set_cons_succ, i64_w, i32_w]
       rfl
      refine pure_ (i := 4) (N := some 126) (v := ?_) (a' := ?_) #[true, true, true, false, true, false, false, false, false, false] rfl rfl (any_of HT_.out (by kernel_rfl)) (fun _ _ _ h => h) (Or.inl ⟨by rfl, ?_⟩) ?_ ?_
      rotate_left
      ·intro w'
       go_simp
       with_reducible rfl
      rotate_left
      ·simp only [Act.put, List.setIfInBounds_toArray, List.set_cons_zero, List.set_cons_succ, i64_w, i32_w]
       rfl
      refine pure_ (i := 5) (N := some 127) (v := ?_) (a' := ?_) #[true, true, true, false, true, true, false, false, false, false] rfl rfl (any_of HT_.out (by kernel_rfl)) (fun _ _ _ h => h) (Or.inl ⟨by rfl, ?_⟩) ?_ ?_
      rotate_left
      ·intro w'
       go_simp
       with_reducible rfl
      rotate_left
      ·simp only [Act.put, List.setIfInBounds_toArray, List.set_cons_zero, List.set_cons_succ, i64_w, i32_w]
       rfl
      refine pure_ (i := 6) (N := some 128) (v := ?_) (a' := ?_) #[true, true, true, false, true, true, true, false, false, false] rfl rfl (any_of HT_.out (by kernel_rfl)) (fun _ _ _ h => h) (Or.inl ⟨by rfl, ?_⟩) ?_ ?_
      rotate_left
      ·intro w'
       go_simp
       with_reducible rfl
      rotate_left
      ·simp only [Act.put, List.setIfInBounds_toArray, List.set_cons_zero, List.set_cons_succ, i64_w, i32_w]
       rfl
      refine take_ (i := 3) (N := some 125) (v := ?_) (a' := ?_) (tf 7 3) rfl rfl (take_ofW HT_.out HW_.out (by kernel_rfl)) (fun _ _ _ h => h) (Or.inl ⟨by rfl, ?_⟩) hHeld ?_ ?_
      rotate_left
      ·intro w' s0
       obtain ⟨x0, x1, x2⟩ := HCX.out w' (below_step HW.out s0)
       go_simp
       with_reducible rfl
      rotate_left
      ·simp only [Act.put, List.setIfInBounds_toArray, List.set_cons_zero, List.set_cons_succ, i64_w, i32_w]
       rfl
      refine take_ (i := 7) (N := some 129) (v := ?_) (a' := ?_) (tf 8 2) rfl rfl (take_ofW HT_.out HW_.out (by kernel_rfl)) (fun _ _ _ h => h) (Or.inl ⟨by rfl, ?_⟩) hHeld ?_ ?_
      rotate_left
      ·intro w' s0
       obtain ⟨x0, x1, x2⟩ := HCY.out w' (below_step HW.out s0)
       go_simp
       with_reducible rfl
      rotate_left
      ·simp only [Act.put, List.setIfInBounds_toArray, List.set_cons_zero, List.set_cons_succ, i64_w, i32_w]
       rfl
      refine one_ (i := 8) (N := some 130) (tf 9 1) rfl rfl (one_of HT_.out (by kernel_rfl)) (by decide) (fun K hK => ?_)
      refine goes_ Tryd.func12 (by kernel_rfl) rfl #[.agg #[.int .i64 x.f0, .int .i64 x.f1, .string x.f2], .agg #[.int .i64 y.f0, .int .i64 y.f1, .string y.f2]] (by rfl) rfl rfl (by simp only [List.map_toArray, List.map_cons, List.map_nil]; rfl) ?_
      refine (cmp_d d x y _ HD.out).mono ?_
      rintro e w908 ⟨rfl, hb⟩
      refine ⟨_, rfl, ?_⟩
      refine hK.out _ _ (below_step hHeld hb) (fun hHeld => ?_)
      clear hK K
      refine norm_ (a' := ?_) ?_ ?_
      rotate_left
      ·show Act.put _ (some 130) _ = _
       simp only [Act.put, List.setIfInBounds_toArray, List.set_cons_zero, List.set_cons_succ, i64_w, i32_w]
       rfl
      refine pure_ (i := 9) (N := some 17) (v := ?_) (a' := ?_) (tf 10 0) rfl rfl (any_of HT_.out (by kernel_rfl)) (fun _ _ _ h => h) (Or.inl ⟨by rfl, ?_⟩) ?_ ?_
      rotate_left
      ·intro w'
       go_simp
       with_reducible rfl
      rotate_left
      ·simp only [Act.put, List.setIfInBounds_toArray, List.set_cons_zero, List.set_cons_succ, i64_w, i32_w]
       rfl
      refine done_ (done_of HT_.out (by kernel_rfl)) ?_
      obtain ⟨wr2, hw2⟩ : ∃ z, z = w908 := ⟨_, rfl⟩
      rw [← hw2] at hHeld ⊢
      have HW := Aside0.mk (below_step HW.out hHeld)
      clear hHeld hw2 HT_ HW_
      have e1 := HE1.out; have e2 := HE2.out; have e3 := HE3.out
      go_upto_region 20 with (fail)
      refine start_ (n := 28) (S := fun w' => Below wr2.heap.size wr2 w') (ds := []) (tf 0 28) (by kernel_rfl) rfl rfl ((below_drew1 (Below.refl _ _))) (fun hHeld => ?_)
      refine with_tabW lawJoins.tab20 lawJoins.bits20 (fun HT_ HW_ => ?_)
      refine pure_ (i := 0) (N := some 131) (v := ?_) (a' := ?_) (tf 1 27) rfl rfl (any_of HT_.out (by kernel_rfl)) (fun _ _ _ h => h) (Or.inl ⟨by rfl, ?_⟩) ?_ ?_
      rotate_left
      ·intro w'
       go_simp
       with_reducible rfl
      rotate_left
      ·simp only [Act.put, List.setIfInBounds_toArray, List.set_cons_zero, List.set_cons_succ, i64_w, i32_w]
       rfl
      refine pure_ (i := 1) (N := some 132) (v := ?_) (a' := ?_) (tf 2 26) rfl rfl (any_of HT_.out (by kernel_rfl)) (fun _ _ _ h => h) (Or.inl ⟨by rfl, ?_⟩) ?_ ?_
      rotate_left
      ·intro w'
       go_simp
       with_reducible rfl
      rotate_left
      ·simp only [Act.put, List.setIfInBounds_toArray, List.set_cons_zero, List.set_cons_succ, i64_w, i32_w]
       rfl
      refine pure_ (i := 2) (N := some 133) (v := ?_) (a' := ?_) (tf 3 25) rfl rfl (any_of HT_.out (by kernel_rfl)) (fun _ _ _ h => h) (Or.inl ⟨by rfl, ?_⟩) ?_ ?_
      rotate_left
      ·intro w'
       go_simp
       with_reducible rfl
      rotate_left
      ·simp only [Act.put, List.setIfInBounds_toArray, List.set_cons_zero, List.set_cons_succ, i64_w, i32_w]
       rfl
      refine pure_ (i := 3) (N := some 134) (v := ?_) (a' := ?_) (tf 4 24) rfl rfl (any_of HT_.out (by kernel_rfl)) (fun _ _ _ h => h) (Or.inl ⟨by rfl, ?_⟩) ?_ ?_
      rotate_left
      ·intro w'
       go_simp
       with_reducible rfl
      rotate_left
      ·simp only [Act.put, List.setIfInBounds_toArray, List.set_cons_zero, List.set_cons_succ, i64_w, i32_w]
       rfl
      refine pure_ (i := 4) (N := some 135) (v := ?_) (a' := ?_) (tf 5 23) rfl rfl (any_of HT_.out (by kernel_rfl)) (fun _ _ _ h => h) (Or.inl ⟨by rfl, ?_⟩) ?_ ?_
      rotate_left
      ·intro w'
       go_simp
       with_reducible rfl
      rotate_left
      ·simp only [Act.put, List.setIfInBounds_toArray, List.set_cons_zero, List.set_cons_succ, i64_w, i32_w]
       rfl
      refine pure_ (i := 5) (N := some 136) (v := ?_) (a' := ?_) (tf 6 22) rfl rfl (any_of HT_.out (by kernel_rfl)) (fun _ _ _ h => h) (Or.inl ⟨by rfl, ?_⟩) ?_ ?_
      rotate_left
      ·intro w'
       go_simp
       with_reducible rfl
      rotate_left
      ·simp only [Act.put, List.setIfInBounds_toArray, List.set_cons_zero, List.set_cons_succ, i64_w, i32_w]
       rfl
      refine pure_ (i := 6) (N := some 137) (v := ?_) (a' := ?_) (tf 7 21) rfl rfl (any_of HT_.out (by kernel_rfl)) (fun _ _ _ h => h) (Or.inl ⟨by rfl, ?_⟩) ?_ ?_
      rotate_left
      ·intro w'
       go_simp
       with_reducible rfl
      rotate_left
      ·simp only [Act.put, List.setIfInBounds_toArray, List.set_cons_zero, List.set_cons_succ, i64_w, i32_w]
       rfl
      refine pure_ (i := 7) (N := some 138) (v := ?_) (a' := ?_) (tf 8 20) rfl rfl (any_of HT_.out (by kernel_rfl)) (fun _ _ _ h => h) (Or.inl ⟨by rfl, ?_⟩) ?_ ?_
      rotate_left
      ·intro w'
       go_simp
       with_reducible rfl
      rotate_left
      ·simp only [Act.put, List.setIfInBounds_toArray, List.set_cons_zero, List.set_cons_succ, i64_w, i32_w]
       rfl
      refine pure_ (i := 8) (N := some 139) (v := ?_) (a' := ?_) (tf 9 19) rfl rfl (any_of HT_.out (by kernel_rfl)) (fun _ _ _ h => h) (Or.inl ⟨by rfl, ?_⟩) ?_ ?_
      rotate_left
      ·intro w'
       go_simp
       with_reducible rfl
      rotate_left
      ·simp only [Act.put, List.setIfInBounds_toArray, List.set_cons_zero, List.set_cons_succ, i64_w, i32_w]
       rfl
      refine pure_ (i := 9) (N := some 140) (v := ?_) (a' := ?_) (tf 10 18) rfl rfl (any_of HT_.out (by kernel_rfl)) (fun _ _ _ h => h) (Or.inl ⟨by rfl, ?_⟩) ?_ ?_
      rotate_left
      ·intro w'
       go_simp
       with_reducible rfl
      rotate_left
      ·simp only [Act.put, List.setIfInBounds_toArray, List.set_cons_zero, List.set_cons_succ, i64_w, i32_w]
       rfl
      refine pure_ (i := 10) (N := some 141) (v := ?_) (a' := ?_) (tf 11 17) rfl rfl (any_of HT_.out (by kernel_rfl)) (fun _ _ _ h => h) (Or.inl ⟨by rfl, ?_⟩) ?_ ?_
      rotate_left
      ·intro w'
       go_simp
       with_reducible rfl
      rotate_left
      ·simp only [Act.put, List.setIfInBounds_toArray, List.set_cons_zero, List.set_cons_succ, i64_w, i32_w]
       rfl
      refine pure_ (i := 11) (N := some 142) (v := ?_) (a' := ?_) (tf 12 16) rfl rfl (any_of HT_.out (by kernel_rfl)) (fun _ _ _ h => h) (Or.inl ⟨by rfl, ?_⟩) ?_ ?_
      rotate_left
      ·intro w'
       go_simp
       with_reducible rfl
      rotate_left
      ·simp only [Act.put, List.setIfInBounds_toArray, List.set_cons_zero, List.set_cons_succ, i64_w, i32_w]
       rfl
      refine pure_ (i := 12) (N := some 143) (v := ?_) (a' := ?_) (tf 13 15) rfl rfl (any_of HT_.out (by kernel_rfl)) (fun _ _ _ h => h) (Or.inl ⟨by rfl, ?_⟩) ?_ ?_
      rotate_left
      ·intro w'
       go_simp
       with_reducible rfl
      rotate_left
      ·simp only [Act.put, List.setIfInBounds_toArray, List.set_cons_zero, List.set_cons_succ, i64_w, i32_w]
       rfl
      refine pure_ (i := 13) (N := some 144) (v := ?_) (a' := ?_) (tf 14 14) rfl rfl (any_of HT_.out (by kernel_rfl)) (fun _ _ _ h => h) (Or.inl ⟨by rfl, ?_⟩) ?_ ?_
      rotate_left
      ·intro w'
       go_simp
       with_reducible rfl
      rotate_left
      ·simp only [Act.put, List.setIfInBounds_toArray, List.set_cons_zero, List.set_cons_succ, i64_w, i32_w]
       rfl
      refine pure_ (i := 14) (N := some 145) (v := ?_) (a' := ?_) (tf 15 13) rfl rfl (any_of HT_.out (by kernel_rfl)) (fun _ _ _ h => h) (Or.inl ⟨by rfl, ?_⟩) ?_ ?_
      rotate_left
      ·intro w'
       go_simp
       with_reducible rfl
      rotate_left
      ·simp only [Act.put, List.setIfInBounds_toArray, List.set_cons_zero, List.set_cons_succ, i64_w, i32_w]
       rfl
      refine pure_ (i := 15) (N := some 146) (v := ?_) (a' := ?_) (tf 16 12) rfl rfl (any_of HT_.out (by kernel_rfl)) (fun _ _ _ h => h) (Or.inl ⟨by rfl, ?_⟩) ?_ ?_
      rotate_left
      ·intro w'
       go_simp
       with_reducible rfl
      rotate_left
      ·simp only [Act.put, List.setIfInBounds_toArray, List.set_cons_zero, List.set_cons_succ, i64_w, i32_w]
       rfl
      refine pure_ (i := 16) (N := some 147) (v := ?_) (a' := ?_) (tf 17 11) rfl rfl (any_of HT_.out (by kernel_rfl)) (fun _ _ _ h => h) (Or.inl ⟨by rfl, ?_⟩) ?_ ?_
      rotate_left
      ·intro w'
       go_simp
       with_reducible rfl
      rotate_left
      ·simp only [Act.put, List.setIfInBounds_toArray, List.set_cons_zero, List.set_cons_succ, i64_w, i32_w]
       rfl
      refine pure_ (i := 17) (N := some 148) (v := ?_) (a' := ?_) (tf 18 10) rfl rfl (any_of HT_.out (by kernel_rfl)) (fun _ _ _ h => h) (Or.inl ⟨by rfl, ?_⟩) ?_ ?_
      rotate_left
      ·intro w'
       go_simp
       with_reducible rfl
      rotate_left
      ·simp only [Act.put, List.setIfInBounds_toArray, List.set_cons_zero, List.set_cons_succ, i64_w, i32_w]
       rfl
      refine pure_ (i := 18) (N := some 149) (v := ?_) (a' := ?_) (tf 19 9) rfl rfl (any_of HT_.out (by kernel_rfl)) (fun _ _ _ h => h) (Or.inl ⟨by rfl, ?_⟩) ?_ ?_
      rotate_left
      ·intro w'
       go_simp
       with_reducible rfl
      rotate_left
      ·simp only [Act.put, List.setIfInBounds_toArray, List.set_cons_zero, List.set_cons_succ, i64_w, i32_w]
       rfl
      refine pure_ (i := 20) (N := some 151) (v := ?_) (a' := ?_) #[true, true, true, true, true, true, true, true, true, true, true, true, true, true, true, true, true, true, true, false, true, false, false, false, false, false, false, false] rfl rfl (any_of HT_.out (by kernel_rfl)) (fun _ _ _ h => h) (Or.inl ⟨by rfl, ?_⟩) ?_ ?_
      rotate_left
      ·intro w'
       go_simp
       with_reducible rfl
      rotate_left
      ·simp only [Act.put, List.setIfInBounds_toArray, List.set_cons_zero, List.set_cons_succ, i64_w, i32_w]
       rfl
      refine pure_ (i := 21) (N := some 152) (v := ?_) (a' := ?_) #[true, true, true, true, true, true, true, true, true, true, true, true, true, true, true, true, true, true, true, false, true, true, false, false, false, false, false, false] rfl rfl (any_of HT_.out (by kernel_rfl)) (fun _ _ _ h => h) (Or.inl ⟨by rfl, ?_⟩) ?_ ?_
      rotate_left
      ·intro w'
       go_simp
       with_reducible rfl
      rotate_left
      ·simp only [Act.put, List.setIfInBounds_toArray, List.set_cons_zero, List.set_cons_succ, i64_w, i32_w]
       rfl
      refine pure_ (i := 22) (N := some 153) (v := ?_) (a' := ?_) #[true, true, true, true, true, true, true, true, true, true, true, true, true, true, true, true, true, true, true, false, true, true, true, false, false, false, false, false] rfl rfl (any_of HT_.out (by kernel_rfl)) (fun _ _ _ h => h) (Or.inl ⟨by rfl, ?_⟩) ?_ ?_
      rotate_left
      ·intro w'
       go_simp
       with_reducible rfl
      rotate_left
      ·simp only [Act.put, List.setIfInBounds_toArray, List.set_cons_zero, List.set_cons_succ, i64_w, i32_w]
       rfl
      refine take_ (i := 19) (N := some 150) (v := ?_) (a' := ?_) (tf 23 5) rfl rfl (take_ofW HT_.out HW_.out (by kernel_rfl)) (fun _ _ _ h => h) (Or.inl ⟨by rfl, ?_⟩) hHeld ?_ ?_
      rotate_left
      ·intro w' s0
       obtain ⟨x0, x1, x2⟩ := HCY.out w' (below_step HW.out s0)
       go_simp
       with_reducible rfl
      rotate_left
      ·simp only [Act.put, List.setIfInBounds_toArray, List.set_cons_zero, List.set_cons_succ, i64_w, i32_w]
       rfl
      refine take_ (i := 23) (N := some 154) (v := ?_) (a' := ?_) (tf 24 4) rfl rfl (take_ofW HT_.out HW_.out (by kernel_rfl)) (fun _ _ _ h => h) (Or.inl ⟨by rfl, ?_⟩) hHeld ?_ ?_
      rotate_left
      ·intro w' s0
       obtain ⟨x0, x1, x2⟩ := HCX.out w' (below_step HW.out s0)
       go_simp
       with_reducible rfl
      rotate_left
      ·simp only [Act.put, List.setIfInBounds_toArray, List.set_cons_zero, List.set_cons_succ, i64_w, i32_w]
       rfl
      refine one_ (i := 24) (N := some 155) (tf 25 3) rfl rfl (one_of HT_.out (by kernel_rfl)) (by decide) (fun K hK => ?_)
      refine goes_ Tryd.func12 (by kernel_rfl) rfl #[.agg #[.int .i64 y.f0, .int .i64 y.f1, .string y.f2], .agg #[.int .i64 x.f0, .int .i64 x.f1, .string x.f2]] (by rfl) rfl rfl (by simp only [List.map_toArray, List.map_cons, List.map_nil]; rfl) ?_
      refine (cmp_d d2 y x _ HD2.out).mono ?_
      rintro e w924 ⟨rfl, hb⟩
      refine ⟨_, rfl, ?_⟩
      refine hK.out _ _ (below_step hHeld hb) (fun hHeld => ?_)
      clear hK K
      refine norm_ (a' := ?_) ?_ ?_
      rotate_left
      ·show Act.put _ (some 155) _ = _
       simp only [Act.put, List.setIfInBounds_toArray, List.set_cons_zero, List.set_cons_succ, i64_w, i32_w]
       rfl
      refine pure_ (i := 25) (N := some 156) (v := ?_) (a' := ?_) (tf 26 2) rfl rfl (any_of HT_.out (by kernel_rfl)) (fun _ _ _ h => h) (Or.inl ⟨by rfl, ?_⟩) ?_ ?_
      rotate_left
      ·intro w'
       go_simp
       with_reducible rfl
      rotate_left
      ·simp only [Act.put, List.setIfInBounds_toArray, List.set_cons_zero, List.set_cons_succ, i64_w, i32_w]
       rfl
      refine pure_ (i := 26) (N := some 157) (v := ?_) (a' := ?_) (tf 27 1) rfl rfl (any_of HT_.out (by kernel_rfl)) (fun _ _ _ h => h) (Or.inl ⟨by rfl, ?_⟩) ?_ ?_
      rotate_left
      ·intro w'
       go_simp
       with_reducible rfl
      rotate_left
      ·simp only [Act.put, List.setIfInBounds_toArray, List.set_cons_zero, List.set_cons_succ, i64_w, i32_w]
       rfl
      refine pure_ (i := 27) (N := some 158) (v := ?_) (a' := ?_) (tf 28 0) rfl rfl (any_of HT_.out (by kernel_rfl)) (fun _ _ _ h => h) (Or.inl ⟨by rfl, ?_⟩) ?_ ?_
      rotate_left
      ·intro w'
       go_simp
       with_reducible rfl
      rotate_left
      ·simp only [Act.put, List.setIfInBounds_toArray, List.set_cons_zero, List.set_cons_succ, i64_w, i32_w]
       rfl
      refine done_ (done_of HT_.out (by kernel_rfl)) ?_
      have HW := Aside0.mk (below_step HW.out hHeld)
      clear hHeld HT_ HW_
      go_wp2
      go_roundw
      case rel => exact ⟨k + 1, by simp, by omega, HW⟩
      case measure => show P.length - ((k : Int) + 1).toNat < P.length - (k : Int).toNat; omega
     ·go_wp2
      go_roundw
      case rel => exact ⟨i + 1, by simp, by omega, HW⟩
      case measure => show P.length - ((i : Int) + 1).toNat < P.length - (i : Int).toNat; omega
   ·go_wp2
    go_ret
    exact ⟨rfl, below_step HBL.out HW.out⟩
 ·by_cases hny : (⟨n0, n1, n2⟩ : Nd) ∈ Y
  ·have HNX : Aside0 (decB ((⟨n0, n1, n2⟩ : Nd) ∈ X) = false) := ⟨decB_false hnx⟩
   have HNY : Aside0 (decB ((⟨n0, n1, n2⟩ : Nd) ∈ Y) = true) := ⟨decB_true hny⟩
   have HNP : Aside0 (decB ((⟨n0, n1, n2⟩ : Nd) ∈ P) = true) := ⟨decB_true (HMP.out.mpr (.inl (.inr hny)))⟩
   clear hnx hny
   go_upto_region 10 with (fail)
   refine start_ (n := 59) (S := fun w' => Below ws.heap.size ws w') (ds := []) (tf 0 59) (by kernel_rfl) rfl rfl ((below_drew1 (Below.refl _ _))) (fun hHeld => ?_)
   refine with_tabW lawJoins.tab10 lawJoins.bits10 (fun HT_ HW_ => ?_)
   refine take_ (i := 0) (N := some 49) (v := ?_) (a' := ?_) (tf 1 58) rfl rfl (take_ofW HT_.out HW_.out (by kernel_rfl)) (fun _ _ _ h => h) (Or.inl ⟨by rfl, ?_⟩) hHeld ?_ ?_
   rotate_left
   ·intro w' s0
    obtain ⟨x0, _⟩ := bk1 (blk_below G12.out s0)
    go_simp
    with_reducible rfl
   rotate_left
   ·simp only [Act.put, List.setIfInBounds_toArray, List.set_cons_zero, List.set_cons_succ, i64_w, i32_w]
    rfl
   refine take_ (i := 1) (N := some 50) (v := ?_) (a' := ?_) (tf 2 57) rfl rfl (take_ofW HT_.out HW_.out (by kernel_rfl)) (fun _ _ _ h => h) (Or.inl ⟨by rfl, ?_⟩) hHeld ?_ ?_
   rotate_left
   ·intro w' s0
    obtain ⟨x0, _⟩ := bk1 (blk_below G13.out s0)
    go_simp
    with_reducible rfl
   rotate_left
   ·simp only [Act.put, List.setIfInBounds_toArray, List.set_cons_zero, List.set_cons_succ, i64_w, i32_w]
    rfl
   refine one_ (i := 2) (N := some 51) (tf 3 56) rfl rfl (one_of HT_.out (by kernel_rfl)) (by decide) (fun K hK => ?_)
   refine goes_ Tryd.func23 (by kernel_rfl) rfl #[.agg #[.map (some bp)], .agg #[.map (some bq)]] (by rfl) rfl rfl (by simp only [List.map_toArray, List.map_cons, List.map_nil]; rfl) ?_
   refine (within_p true (some bp) (some bq) P P _ (HSP.out.below hHeld) (HSQ.out.below hHeld) HPP.out).mono ?_
   rintro e w902 ⟨rfl, hb⟩
   refine ⟨_, rfl, ?_⟩
   refine hK.out _ _ (below_step hHeld hb) (fun hHeld => ?_)
   clear hK K
   refine norm_ (a' := ?_) ?_ ?_
   rotate_left
   ·show Act.put _ (some 51) _ = _
    simp only [Act.put, List.setIfInBounds_toArray, List.set_cons_zero, List.set_cons_succ, i64_w, i32_w]
    rfl
   refine pure_ (i := 3) (N := some 52) (v := ?_) (a' := ?_) (tf 4 55) rfl rfl (any_of HT_.out (by kernel_rfl)) (fun _ _ _ h => h) (Or.inl ⟨by rfl, ?_⟩) ?_ ?_
   rotate_left
   ·intro w'
    go_simp
    with_reducible rfl
   rotate_left
   ·simp only [Act.put, List.setIfInBounds_toArray, List.set_cons_zero, List.set_cons_succ, i64_w, i32_w]
    rfl
   refine pure_ (i := 4) (N := some 53) (v := ?_) (a' := ?_) (tf 5 54) rfl rfl (any_of HT_.out (by kernel_rfl)) (fun _ _ _ h => h) (Or.inl ⟨by rfl, ?_⟩) ?_ ?_
   rotate_left
   ·intro w'
    go_simp
    with_reducible rfl
   rotate_left
   ·simp only [Act.put, List.setIfInBounds_toArray, List.set_cons_zero, List.set_cons_succ, i64_w, i32_w]
    rfl
   refine take_ (i := 5) (N := some 54) (v := ?_) (a' := ?_) (tf 6 53) rfl rfl (take_ofW HT_.out HW_.out (by kernel_rfl)) (fun _ _ _ h => h) (Or.inl ⟨by rfl, ?_⟩) hHeld ?_ ?_
   rotate_left
   ·intro w' s0
    obtain ⟨x0, _⟩ := bk1 (blk_below G13.out s0)
    go_simp
    with_reducible rfl
   rotate_left
   ·simp only [Act.put, List.setIfInBounds_toArray, List.set_cons_zero, List.set_cons_succ, i64_w, i32_w]
    rfl
   refine take_ (i := 6) (N := some 55) (v := ?_) (a' := ?_) (tf 7 52) rfl rfl (take_ofW HT_.out HW_.out (by kernel_rfl)) (fun _ _ _ h => h) (Or.inl ⟨by rfl, ?_⟩) hHeld ?_ ?_
   rotate_left
   ·intro w' s0
    obtain ⟨x0, _⟩ := bk1 (blk_below G12.out s0)
    go_simp
    with_reducible rfl
   rotate_left
   ·simp only [Act.put, List.setIfInBounds_toArray, List.set_cons_zero, List.set_cons_succ, i64_w, i32_w]
    rfl
   refine one_ (i := 7) (N := some 56) (tf 8 51) rfl rfl (one_of HT_.out (by kernel_rfl)) (by decide) (fun K hK => ?_)
   refine goes_ Tryd.func23 (by kernel_rfl) rfl #[.agg #[.map (some bq)], .agg #[.map (some bp)]] (by rfl) rfl rfl (by simp only [List.map_toArray, List.map_cons, List.map_nil]; rfl) ?_
   refine (within_p true (some bq) (some bp) P P _ (HSQ.out.below hHeld) (HSP.out.below hHeld) HPP.out).mono ?_
   rintro e w907 ⟨rfl, hb⟩
   refine ⟨_, rfl, ?_⟩
   refine hK.out _ _ (below_step hHeld hb) (fun hHeld => ?_)
   clear hK K
   refine norm_ (a' := ?_) ?_ ?_
   rotate_left
   ·show Act.put _ (some 56) _ = _
    simp only [Act.put, List.setIfInBounds_toArray, List.set_cons_zero, List.set_cons_succ, i64_w, i32_w]
    rfl
   refine pure_ (i := 8) (N := some 57) (v := ?_) (a' := ?_) (tf 9 50) rfl rfl (any_of HT_.out (by kernel_rfl)) (fun _ _ _ h => h) (Or.inl ⟨by rfl, ?_⟩) ?_ ?_
   rotate_left
   ·intro w'
    go_simp
    with_reducible rfl
   rotate_left
   ·simp only [Act.put, List.setIfInBounds_toArray, List.set_cons_zero, List.set_cons_succ, i64_w, i32_w]
    rfl
   refine pure_ (i := 9) (N := some 58) (v := ?_) (a' := ?_) (tf 10 49) rfl rfl (any_of HT_.out (by kernel_rfl)) (fun _ _ _ h => h) (Or.inl ⟨by rfl, ?_⟩) ?_ ?_
   rotate_left
   ·intro w'
    go_simp
    with_reducible rfl
   rotate_left
   ·simp only [Act.put, List.setIfInBounds_toArray, List.set_cons_zero, List.set_cons_succ, i64_w, i32_w]
    rfl
   refine pure_ (i := 10) (N := some 59) (v := ?_) (a' := ?_) (tf 11 48) rfl rfl (any_of HT_.out (by kernel_rfl)) (fun _ _ _ h => h) (Or.inl ⟨by rfl, ?_⟩) ?_ ?_
   rotate_left
   ·intro w'
    go_simp
    with_reducible rfl
   rotate_left
   ·simp only [Act.put, List.setIfInBounds_toArray, List.set_cons_zero, List.set_cons_succ, i64_w, i32_w]
    rfl
   refine take_ (i := 11) (N := some 60) (v := ?_) (a' := ?_) (tf 12 47) rfl rfl (take_ofW HT_.out HW_.out (by kernel_rfl)) (fun _ _ _ h => h) (Or.inl ⟨by rfl, ?_⟩) hHeld ?_ ?_
   rotate_left
   ·intro w' s0
    obtain ⟨x0, _⟩ := bk1 (blk_below G9.out s0)
    go_simp
    with_reducible rfl
   rotate_left
   ·simp only [Act.put, List.setIfInBounds_toArray, List.set_cons_zero, List.set_cons_succ, i64_w, i32_w]
    rfl
   refine take_ (i := 12) (N := some 61) (v := ?_) (a' := ?_) (tf 13 46) rfl rfl (take_ofW HT_.out HW_.out (by kernel_rfl)) (fun _ _ _ h => h) (Or.inl ⟨by rfl, ?_⟩) hHeld ?_ ?_
   rotate_left
   ·intro w' s0
    obtain ⟨x0, _⟩ := bk1 (blk_below G12.out s0)
    go_simp
    with_reducible rfl
   rotate_left
   ·simp only [Act.put, List.setIfInBounds_toArray, List.set_cons_zero, List.set_cons_succ, i64_w, i32_w]
    rfl
   refine one_ (i := 13) (N := some 62) (tf 14 45) rfl rfl (one_of HT_.out (by kernel_rfl)) (by decide) (fun K hK => ?_)
   refine goes_ Tryd.func23 (by kernel_rfl) rfl #[.agg #[.map (some bx)], .agg #[.map (some bp)]] (by rfl) rfl rfl (by simp only [List.map_toArray, List.map_cons, List.map_nil]; rfl) ?_
   refine (within_p true (some bx) (some bp) X P _ (HSX.out.below hHeld) (HSP.out.below hHeld) HXP.out).mono ?_
   rintro e w913 ⟨rfl, hb⟩
   refine ⟨_, rfl, ?_⟩
   refine hK.out _ _ (below_step hHeld hb) (fun hHeld => ?_)
   clear hK K
   refine norm_ (a' := ?_) ?_ ?_
   rotate_left
   ·show Act.put _ (some 62) _ = _
    simp only [Act.put, List.setIfInBounds_toArray, List.set_cons_zero, List.set_cons_succ, i64_w, i32_w]
    rfl
   refine pure_ (i := 14) (N := some 63) (v := ?_) (a' := ?_) (tf 15 44) rfl rfl (any_of HT_.out (by kernel_rfl)) (fun _ _ _ h => h) (Or.inl ⟨by rfl, ?_⟩) ?_ ?_
   rotate_left
   ·intro w'
    go_simp
    with_reducible rfl
   rotate_left
   ·simp only [Act.put, List.setIfInBounds_toArray, List.set_cons_zero, List.set_cons_succ, i64_w, i32_w]
    rfl
   refine pure_ (i := 15) (N := some 64) (v := ?_) (a' := ?_) (tf 16 43) rfl rfl (any_of HT_.out (by kernel_rfl)) (fun _ _ _ h => h) (Or.inl ⟨by rfl, ?_⟩) ?_ ?_
   rotate_left
   ·intro w'
    go_simp
    with_reducible rfl
   rotate_left
   ·simp only [Act.put, List.setIfInBounds_toArray, List.set_cons_zero, List.set_cons_succ, i64_w, i32_w]
    rfl
   refine pure_ (i := 16) (N := some 65) (v := ?_) (a' := ?_) (tf 17 42) rfl rfl (any_of HT_.out (by kernel_rfl)) (fun _ _ _ h => h) (Or.inl ⟨by rfl, ?_⟩) ?_ ?_
   rotate_left
   ·intro w'
    go_simp
    with_reducible rfl
   rotate_left
   ·simp only [Act.put, List.setIfInBounds_toArray, List.set_cons_zero, List.set_cons_succ, i64_w, i32_w]
    rfl
   refine take_ (i := 17) (N := some 66) (v := ?_) (a' := ?_) (tf 18 41) rfl rfl (take_ofW HT_.out HW_.out (by kernel_rfl)) (fun _ _ _ h => h) (Or.inl ⟨by rfl, ?_⟩) hHeld ?_ ?_
   rotate_left
   ·intro w' s0
    obtain ⟨x0, _⟩ := bk1 (blk_below G12.out s0)
    go_simp
    with_reducible rfl
   rotate_left
   ·simp only [Act.put, List.setIfInBounds_toArray, List.set_cons_zero, List.set_cons_succ, i64_w, i32_w]
    rfl
   refine take_ (i := 19) (N := some 68) (v := ?_) (a' := ?_) #[true, true, true, true, true, true, true, true, true, true, true, true, true, true, true, true, true, true, false, true, false, false, false, false, false, false, false, false, false, false, false, false, false, false, false, false, false, false, false, false, false, false, false, false, false, false, false, false, false, false, false, false, false, false, false, false, false, false, false] rfl rfl (take_ofW HT_.out HW_.out (by kernel_rfl)) (fun _ _ _ h => h) (Or.inl ⟨by rfl, ?_⟩) hHeld ?_ ?_
   rotate_left
   ·intro w' s0
    obtain ⟨x0, _⟩ := bk1 (blk_below G13.out s0)
    go_simp
    with_reducible rfl
   rotate_left
   ·simp only [Act.put, List.setIfInBounds_toArray, List.set_cons_zero, List.set_cons_succ, i64_w, i32_w]
    rfl
   refine one_ (i := 18) (N := some 67) (tf 20 39) rfl rfl (one_of HT_.out (by kernel_rfl)) (by decide) (fun K hK => ?_)
   refine goes_ Tryd.func26 (by kernel_rfl) rfl #[.agg #[.map (some bp)]] (by rfl) rfl rfl (by simp only [List.map_toArray, List.map_cons, List.map_nil]; rfl) ?_
   refine (set_Len (some bp) P _ (HSP.out.below hHeld)).mono ?_
   rintro e w918 ⟨rfl, hb⟩
   refine ⟨_, rfl, ?_⟩
   refine hK.out _ _ (below_step hHeld hb) (fun hHeld => ?_)
   clear hK K
   refine norm_ (a' := ?_) ?_ ?_
   rotate_left
   ·show Act.put _ (some 67) _ = _
    simp only [Act.put, List.setIfInBounds_toArray, List.set_cons_zero, List.set_cons_succ, i64_w, i32_w]
    rfl
   refine one_ (i := 20) (N := some 69) (tf 21 38) rfl rfl (one_of HT_.out (by kernel_rfl)) (by decide) (fun K hK => ?_)
   refine goes_ Tryd.func26 (by kernel_rfl) rfl #[.agg #[.map (some bq)]] (by rfl) rfl rfl (by simp only [List.map_toArray, List.map_cons, List.map_nil]; rfl) ?_
   refine (set_Len (some bq) P _ (HSQ.out.below hHeld)).mono ?_
   rintro e w920 ⟨rfl, hb⟩
   refine ⟨_, rfl, ?_⟩
   refine hK.out _ _ (below_step hHeld hb) (fun hHeld => ?_)
   clear hK K
   refine norm_ (a' := ?_) ?_ ?_
   rotate_left
   ·show Act.put _ (some 69) _ = _
    simp only [Act.put, List.setIfInBounds_toArray, List.set_cons_zero, List.set_cons_succ, i64_w, i32_w]
    rfl
   refine pure_ (i := 21) (N := some 70) (v := ?_) (a' := ?_) (tf 22 37) rfl rfl (any_of HT_.out (by kernel_rfl)) (fun _ _ _ h => h) (Or.inl ⟨by rfl, ?_⟩) ?_ ?_
   rotate_left
   ·intro w'
    go_simp
    with_reducible rfl
   rotate_left
   ·simp only [Act.put, List.setIfInBounds_toArray, List.set_cons_zero, List.set_cons_succ, i64_w, i32_w]
    rfl
   refine pure_ (i := 22) (N := some 71) (v := ?_) (a' := ?_) (tf 23 36) rfl rfl (any_of HT_.out (by kernel_rfl)) (fun _ _ _ h => h) (Or.inl ⟨by rfl, ?_⟩) ?_ ?_
   rotate_left
   ·intro w'
    go_simp
    with_reducible rfl
   rotate_left
   ·simp only [Act.put, List.setIfInBounds_toArray, List.set_cons_zero, List.set_cons_succ, i64_w, i32_w]
    rfl
   refine pure_ (i := 23) (N := some 72) (v := ?_) (a' := ?_) (tf 24 35) rfl rfl (any_of HT_.out (by kernel_rfl)) (fun _ _ _ h => h) (Or.inl ⟨by rfl, ?_⟩) ?_ ?_
   rotate_left
   ·intro w'
    go_simp
    with_reducible rfl
   rotate_left
   ·simp only [Act.put, List.setIfInBounds_toArray, List.set_cons_zero, List.set_cons_succ, i64_w, i32_w]
    rfl
   refine take_ (i := 24) (N := some 73) (v := ?_) (a' := ?_) (tf 25 34) rfl rfl (take_ofW HT_.out HW_.out (by kernel_rfl)) (fun _ _ _ h => h) (Or.inl ⟨by rfl, ?_⟩) hHeld ?_ ?_
   rotate_left
   ·intro w' s0
    obtain ⟨x0, _⟩ := bk1 (blk_below G12.out s0)
    go_simp
    with_reducible rfl
   rotate_left
   ·simp only [Act.put, List.setIfInBounds_toArray, List.set_cons_zero, List.set_cons_succ, i64_w, i32_w]
    rfl
   refine take_ (i := 25) (N := some 74) (v := ?_) (a' := ?_) (tf 26 33) rfl rfl (take_ofW HT_.out HW_.out (by kernel_rfl)) (fun _ _ _ h => h) (Or.inl ⟨by rfl, ?_⟩) hHeld ?_ ?_
   rotate_left
   ·intro w' s0
    obtain ⟨x0, x1, x2, _⟩ := bk3 (blk_below H7.out s0)
    go_simp
    with_reducible rfl
   rotate_left
   ·simp only [Act.put, List.setIfInBounds_toArray, List.set_cons_zero, List.set_cons_succ, i64_w, i32_w]
    rfl
   refine take_ (i := 27) (N := some 76) (v := ?_) (a' := ?_) #[true, true, true, true, true, true, true, true, true, true, true, true, true, true, true, true, true, true, true, true, true, true, true, true, true, true, false, true, false, false, false, false, false, false, false, false, false, false, false, false, false, false, false, false, false, false, false, false, false, false, false, false, false, false, false, false, false, false, false] rfl rfl (take_ofW HT_.out HW_.out (by kernel_rfl)) (fun _ _ _ h => h) (Or.inl ⟨by rfl, ?_⟩) hHeld ?_ ?_
   rotate_left
   ·intro w' s0
    obtain ⟨x0, _⟩ := bk1 (blk_below G9.out s0)
    go_simp
    with_reducible rfl
   rotate_left
   ·simp only [Act.put, List.setIfInBounds_toArray, List.set_cons_zero, List.set_cons_succ, i64_w, i32_w]
    rfl
   refine take_ (i := 28) (N := some 77) (v := ?_) (a' := ?_) #[true, true, true, true, true, true, true, true, true, true, true, true, true, true, true, true, true, true, true, true, true, true, true, true, true, true, false, true, true, false, false, false, false, false, false, false, false, false, false, false, false, false, false, false, false, false, false, false, false, false, false, false, false, false, false, false, false, false, false] rfl rfl (take_ofW HT_.out HW_.out (by kernel_rfl)) (fun _ _ _ h => h) (Or.inl ⟨by rfl, ?_⟩) hHeld ?_ ?_
   rotate_left
   ·intro w' s0
    obtain ⟨x0, x1, x2, _⟩ := bk3 (blk_below H7.out s0)
    go_simp
    with_reducible rfl
   rotate_left
   ·simp only [Act.put, List.setIfInBounds_toArray, List.set_cons_zero, List.set_cons_succ, i64_w, i32_w]
    rfl
   refine one_ (i := 26) (N := some 75) (tf 29 30) rfl rfl (one_of HT_.out (by kernel_rfl)) (by decide) (fun K hK => ?_)
   refine goes_ Tryd.func25 (by kernel_rfl) rfl #[.agg #[.map (some bp)], .agg #[.int .i64 n0, .int .i64 n1, .string n2]] (by rfl) rfl rfl (by simp only [List.map_toArray, List.map_cons, List.map_nil]; rfl) ?_
   refine (has_q true (some bp) P ⟨n0, n1, n2⟩ _ (HSP.out.below hHeld) HWN.out HNP.out).mono ?_
   rintro e w926 ⟨rfl, hb⟩
   refine ⟨_, rfl, ?_⟩
   refine hK.out _ _ (below_step hHeld hb) (fun hHeld => ?_)
   clear hK K
   refine norm_ (a' := ?_) ?_ ?_
   rotate_left
   ·show Act.put _ (some 75) _ = _
    simp only [Act.put, List.setIfInBounds_toArray, List.set_cons_zero, List.set_cons_succ, i64_w, i32_w]
    rfl
   refine one_ (i := 29) (N := some 78) (tf 30 29) rfl rfl (one_of HT_.out (by kernel_rfl)) (by decide) (fun K hK => ?_)
   refine goes_ Tryd.func25 (by kernel_rfl) rfl #[.agg #[.map (some bx)], .agg #[.int .i64 n0, .int .i64 n1, .string n2]] (by rfl) rfl rfl (by simp only [List.map_toArray, List.map_cons, List.map_nil]; rfl) ?_
   refine (has_q false (some bx) X ⟨n0, n1, n2⟩ _ (HSX.out.below hHeld) HWN.out HNX.out).mono ?_
   rintro e w929 ⟨rfl, hb⟩
   refine ⟨_, rfl, ?_⟩
   refine hK.out _ _ (below_step hHeld hb) (fun hHeld => ?_)
   clear hK K
   refine norm_ (a' := ?_) ?_ ?_
   rotate_left
   ·show Act.put _ (some 78) _ = _
    simp only [Act.put, List.setIfInBounds_toArray, List.set_cons_zero, List.set_cons_succ, i64_w, i32_w]
    rfl
   refine pure_ (i := 30) (N := some 79) (v := ?_) (a' := ?_) (tf 31 28) rfl rfl (any_of HT_.out (by kernel_rfl)) (fun _ _ _ h => h) (Or.inl ⟨by rfl, ?_⟩) ?_ ?_
   rotate_left
   ·intro w'
    go_simp
    with_reducible rfl
   rotate_left
   ·simp only [Act.put, List.setIfInBounds_toArray, List.set_cons_zero, List.set_cons_succ, i64_w, i32_w]
    rfl
   refine take_ (i := 31) (N := some 80) (v := ?_) (a' := ?_) (tf 32 27) rfl rfl (take_ofW HT_.out HW_.out (by kernel_rfl)) (fun _ _ _ h => h) (Or.inl ⟨by rfl, ?_⟩) hHeld ?_ ?_
   rotate_left
   ·intro w' s0
    obtain ⟨x0, _⟩ := bk1 (blk_below G10.out s0)
    go_simp
    with_reducible rfl
   rotate_left
   ·simp only [Act.put, List.setIfInBounds_toArray, List.set_cons_zero, List.set_cons_succ, i64_w, i32_w]
    rfl
   refine take_ (i := 32) (N := some 81) (v := ?_) (a' := ?_) (tf 33 26) rfl rfl (take_ofW HT_.out HW_.out (by kernel_rfl)) (fun _ _ _ h => h) (Or.inl ⟨by rfl, ?_⟩) hHeld ?_ ?_
   rotate_left
   ·intro w' s0
    obtain ⟨x0, x1, x2, _⟩ := bk3 (blk_below H7.out s0)
    go_simp
    with_reducible rfl
   rotate_left
   ·simp only [Act.put, List.setIfInBounds_toArray, List.set_cons_zero, List.set_cons_succ, i64_w, i32_w]
    rfl
   refine one_ (i := 33) (N := some 82) (tf 34 25) rfl rfl (one_of HT_.out (by kernel_rfl)) (by decide) (fun K hK => ?_)
   refine goes_ Tryd.func25 (by kernel_rfl) rfl #[.agg #[.map (some by_)], .agg #[.int .i64 n0, .int .i64 n1, .string n2]] (by rfl) rfl rfl (by simp only [List.map_toArray, List.map_cons, List.map_nil]; rfl) ?_
   refine (has_q true (some by_) Y ⟨n0, n1, n2⟩ _ (HSY.out.below hHeld) HWN.out HNY.out).mono ?_
   rintro e w933 ⟨rfl, hb⟩
   refine ⟨_, rfl, ?_⟩
   refine hK.out _ _ (below_step hHeld hb) (fun hHeld => ?_)
   clear hK K
   refine norm_ (a' := ?_) ?_ ?_
   rotate_left
   ·show Act.put _ (some 82) _ = _
    simp only [Act.put, List.setIfInBounds_toArray, List.set_cons_zero, List.set_cons_succ, i64_w, i32_w]
    rfl
   refine pure_ (i := 34) (N := some 83) (v := ?_) (a' := ?_) (tf 35 24) rfl rfl (any_of HT_.out (by kernel_rfl)) (fun _ _ _ h => h) (Or.inl ⟨by rfl, ?_⟩) ?_ ?_
   rotate_left
   ·intro w'
    go_simp
    with_reducible rfl
   rotate_left
   ·simp only [Act.put, List.setIfInBounds_toArray, List.set_cons_zero, List.set_cons_succ, i64_w, i32_w]
    rfl
   refine pure_ (i := 35) (N := some 84) (v := ?_) (a' := ?_) (tf 36 23) rfl rfl (any_of HT_.out (by kernel_rfl)) (fun _ _ _ h => h) (Or.inl ⟨by rfl, ?_⟩) ?_ ?_
   rotate_left
   ·intro w'
    go_simp
    with_reducible rfl
   rotate_left
   ·simp only [Act.put, List.setIfInBounds_toArray, List.set_cons_zero, List.set_cons_succ, i64_w, i32_w]
    rfl
   refine pure_ (i := 36) (N := some 85) (v := undef) (a' := ?_) (tf 37 22) rfl rfl (any_of HT_.out (by kernel_rfl)) (fun _ _ _ h => h) (Or.inr ⟨by rfl, rfl⟩) ?_ ?_
   rotate_left
   ·simp only [Act.put, List.setIfInBounds_toArray, List.set_cons_zero, List.set_cons_succ, i64_w, i32_w]
    rfl
   refine pure_ (i := 37) (N := some 86) (v := undef) (a' := ?_) (tf 38 21) rfl rfl (any_of HT_.out (by kernel_rfl)) (fun _ _ _ h => h) (Or.inr ⟨by rfl, rfl⟩) ?_ ?_
   rotate_left
   ·simp only [Act.put, List.setIfInBounds_toArray, List.set_cons_zero, List.set_cons_succ, i64_w, i32_w]
    rfl
   refine pure_ (i := 38) (N := some 87) (v := undef) (a' := ?_) (tf 39 20) rfl rfl (any_of HT_.out (by kernel_rfl)) (fun _ _ _ h => h) (Or.inr ⟨by rfl, rfl⟩) ?_ ?_
   rotate_left
   ·simp only [Act.put, List.setIfInBounds_toArray, List.set_cons_zero, List.set_cons_succ, i64_w, i32_w]
    rfl
   refine pure_ (i := 39) (N := some 88) (v := ?_) (a' := ?_) (tf 40 19) rfl rfl (any_of HT_.out (by kernel_rfl)) (fun _ _ _ h => h) (Or.inl ⟨by rfl, ?_⟩) ?_ ?_
   rotate_left
   ·intro w'
    go_simp
    with_reducible rfl
   rotate_left
   ·simp only [Act.put, List.setIfInBounds_toArray, List.set_cons_zero, List.set_cons_succ, i64_w, i32_w]
    rfl
   refine pure_ (i := 40) (N := some 89) (v := ?_) (a' := ?_) (tf 41 18) rfl rfl (any_of HT_.out (by kernel_rfl)) (fun _ _ _ h => h) (Or.inl ⟨by rfl, ?_⟩) ?_ ?_
   rotate_left
   ·intro w'
    go_simp
    with_reducible rfl
   rotate_left
   ·simp only [Act.put, List.setIfInBounds_toArray, List.set_cons_zero, List.set_cons_succ, i64_w, i32_w]
    rfl
   refine pure_ (i := 41) (N := some 90) (v := ?_) (a' := ?_) (tf 42 17) rfl rfl (any_of HT_.out (by kernel_rfl)) (fun _ _ _ h => h) (Or.inl ⟨by rfl, ?_⟩) ?_ ?_
   rotate_left
   ·intro w'
    go_simp
    with_reducible rfl
   rotate_left
   ·simp only [Act.put, List.setIfInBounds_toArray, List.set_cons_zero, List.set_cons_succ, i64_w, i32_w]
    rfl
   refine pure_ (i := 42) (N := some 91) (v := ?_) (a' := ?_) (tf 43 16) rfl rfl (any_of HT_.out (by kernel_rfl)) (fun _ _ _ h => h) (Or.inl ⟨by rfl, ?_⟩) ?_ ?_
   rotate_left
   ·intro w'
    go_simp
    with_reducible rfl
   rotate_left
   ·simp only [Act.put, List.setIfInBounds_toArray, List.set_cons_zero, List.set_cons_succ, i64_w, i32_w]
    rfl
   refine take_ (i := 43) (N := some 92) (v := ?_) (a' := ?_) (tf 44 15) rfl rfl (take_ofW HT_.out HW_.out (by kernel_rfl)) (fun _ _ _ h => h) (Or.inl ⟨by rfl, ?_⟩) hHeld ?_ ?_
   rotate_left
   ·intro w' s0
    obtain ⟨x0, _⟩ := bk1 (blk_below G12.out s0)
    go_simp
    with_reducible rfl
   rotate_left
   ·simp only [Act.put, List.setIfInBounds_toArray, List.set_cons_zero, List.set_cons_succ, i64_w, i32_w]
    rfl
   refine take_ (i := 44) (N := some 93) (v := ?_) (a' := ?_) (tf 45 14) rfl rfl (take_ofW HT_.out HW_.out (by kernel_rfl)) (fun _ _ _ h => h) (Or.inl ⟨by rfl, ?_⟩) hHeld ?_ ?_
   rotate_left
   ·intro w' s0
    obtain ⟨x0, _⟩ := bk1 (blk_below G9.out s0)
    go_simp
    with_reducible rfl
   rotate_left
   ·simp only [Act.put, List.setIfInBounds_toArray, List.set_cons_zero, List.set_cons_succ, i64_w, i32_w]
    rfl
   refine take_ (i := 47) (N := some 96) (v := ?_) (a' := ?_) #[true, true, true, true, true, true, true, true, true, true, true, true, true, true, true, true, true, true, true, true, true, true, true, true, true, true, true, true, true, true, true, true, true, true, true, true, true, true, true, true, true, true, true, true, true, false, false, true, false, false, false, false, false, false, false, false, false, false, false] rfl rfl (take_ofW HT_.out HW_.out (by kernel_rfl)) (fun _ _ _ h => h) (Or.inl ⟨by rfl, ?_⟩) hHeld ?_ ?_
   rotate_left
   ·intro w' s0
    obtain ⟨x0, _⟩ := bk1 (blk_below G12.out s0)
    go_simp
    with_reducible rfl
   rotate_left
   ·simp only [Act.put, List.setIfInBounds_toArray, List.set_cons_zero, List.set_cons_succ, i64_w, i32_w]
    rfl
   refine one_ (i := 45) (N := some 94) #[true, true, true, true, true, true, true, true, true, true, true, true, true, true, true, true, true, true, true, true, true, true, true, true, true, true, true, true, true, true, true, true, true, true, true, true, true, true, true, true, true, true, true, true, true, true, false, true, false, false, false, false, false, false, false, false, false, false, false] rfl rfl (one_of HT_.out (by kernel_rfl)) (by decide) (fun K hK => ?_)
   refine goes_ Tryd.func21 (by kernel_rfl) rfl #[.agg #[.map (some bp)], .agg #[.map (some bx)]] (by rfl) rfl rfl (by simp only [List.map_toArray, List.map_cons, List.map_nil]; rfl) ?_
   refine (set_Join (some bp) (some bx) P X _ (HSP.out.below hHeld) (HSX.out.below hHeld) (by have := HLX.out; have := HLP.out; omega)).mono ?_
   rintro e w945 ⟨b45, rfl, _, hs45, hb⟩
   refine ⟨_, rfl, ?_⟩
   rw [HPX.out] at hs45
   have HS45 := Aside0.mk hs45
   clear hs45
   refine hK.out _ _ (below_step hHeld hb) (fun hHeld => ?_)
   clear hK K
   refine norm_ (a' := ?_) ?_ ?_
   rotate_left
   ·show Act.put _ (some 94) _ = _
    simp only [Act.put, List.setIfInBounds_toArray, List.set_cons_zero, List.set_cons_succ, i64_w, i32_w]
    rfl
   refine one_ (i := 46) (N := some 95) (tf 48 11) rfl rfl (one_of HT_.out (by kernel_rfl)) (by decide) (fun K hK => ?_)
   refine goes_ Tryd.func26 (by kernel_rfl) rfl #[.agg #[.map (some b45)]] (by rfl) rfl rfl (by simp only [List.map_toArray, List.map_cons, List.map_nil]; rfl) ?_
   refine (set_Len (some b45) P _ HS45.out).mono ?_
   rintro e w946 ⟨rfl, hb⟩
   refine ⟨_, rfl, ?_⟩
   refine hK.out _ _ (below_step hHeld hb) (fun hHeld => ?_)
   clear hK K
   refine norm_ (a' := ?_) ?_ ?_
   rotate_left
   ·show Act.put _ (some 95) _ = _
    simp only [Act.put, List.setIfInBounds_toArray, List.set_cons_zero, List.set_cons_succ, i64_w, i32_w]
    rfl
   refine one_ (i := 48) (N := some 97) (tf 49 10) rfl rfl (one_of HT_.out (by kernel_rfl)) (by decide) (fun K hK => ?_)
   refine goes_ Tryd.func26 (by kernel_rfl) rfl #[.agg #[.map (some bp)]] (by rfl) rfl rfl (by simp only [List.map_toArray, List.map_cons, List.map_nil]; rfl) ?_
   refine (set_Len (some bp) P _ (HSP.out.below hHeld)).mono ?_
   rintro e w948 ⟨rfl, hb⟩
   refine ⟨_, rfl, ?_⟩
   refine hK.out _ _ (below_step hHeld hb) (fun hHeld => ?_)
   clear hK K
   refine norm_ (a' := ?_) ?_ ?_
   rotate_left
   ·show Act.put _ (some 97) _ = _
    simp only [Act.put, List.setIfInBounds_toArray, List.set_cons_zero, List.set_cons_succ, i64_w, i32_w]
    rfl
   refine pure_ (i := 49) (N := some 98) (v := ?_) (a' := ?_) (tf 50 9) rfl rfl (any_of HT_.out (by kernel_rfl)) (fun _ _ _ h => h) (Or.inl ⟨by rfl, ?_⟩) ?_ ?_
   rotate_left
   ·intro w'
    go_simp
    with_reducible rfl
   rotate_left
   ·simp only [Act.put, List.setIfInBounds_toArray, List.set_cons_zero, List.set_cons_succ, i64_w, i32_w]
    rfl
   refine pure_ (i := 50) (N := some 99) (v := ?_) (a' := ?_) (tf 51 8) rfl rfl (any_of HT_.out (by kernel_rfl)) (fun _ _ _ h => h) (Or.inl ⟨by rfl, ?_⟩) ?_ ?_
   rotate_left
   ·intro w'
    go_simp
    with_reducible rfl
   rotate_left
   ·simp only [Act.put, List.setIfInBounds_toArray, List.set_cons_zero, List.set_cons_succ, i64_w, i32_w]
    rfl
   refine pure_ (i := 51) (N := some 100) (v := ?_) (a' := ?_) (tf 52 7) rfl rfl (any_of HT_.out (by kernel_rfl)) (fun _ _ _ h => h) (Or.inl ⟨by rfl, ?_⟩) ?_ ?_
   rotate_left
   ·intro w'
    go_simp
    with_reducible rfl
   rotate_left
   ·simp only [Act.put, List.setIfInBounds_toArray, List.set_cons_zero, List.set_cons_succ, i64_w, i32_w]
    rfl
   refine take_ (i := 52) (N := some 101) (v := ?_) (a' := ?_) (tf 53 6) rfl rfl (take_ofW HT_.out HW_.out (by kernel_rfl)) (fun _ _ _ h => h) (Or.inl ⟨by rfl, ?_⟩) hHeld ?_ ?_
   rotate_left
   ·intro w' s0
    obtain ⟨x0, _⟩ := bk1 (blk_below G9.out s0)
    go_simp
    with_reducible rfl
   rotate_left
   ·simp only [Act.put, List.setIfInBounds_toArray, List.set_cons_zero, List.set_cons_succ, i64_w, i32_w]
    rfl
   refine take_ (i := 53) (N := some 102) (v := ?_) (a' := ?_) (tf 54 5) rfl rfl (take_ofW HT_.out HW_.out (by kernel_rfl)) (fun _ _ _ h => h) (Or.inl ⟨by rfl, ?_⟩) hHeld ?_ ?_
   rotate_left
   ·intro w' s0
    obtain ⟨x0, x1, x2, _⟩ := bk3 (blk_below H7.out s0)
    go_simp
    with_reducible rfl
   rotate_left
   ·simp only [Act.put, List.setIfInBounds_toArray, List.set_cons_zero, List.set_cons_succ, i64_w, i32_w]
    rfl
   refine take_ (i := 55) (N := some 104) (v := ?_) (a' := ?_) #[true, true, true, true, true, true, true, true, true, true, true, true, true, true, true, true, true, true, true, true, true, true, true, true, true, true, true, true, true, true, true, true, true, true, true, true, true, true, true, true, true, true, true, true, true, true, true, true, true, true, true, true, true, true, false, true, false, false, false] rfl rfl (take_ofW HT_.out HW_.out (by kernel_rfl)) (fun _ _ _ h => h) (Or.inl ⟨by rfl, ?_⟩) hHeld ?_ ?_
   rotate_left
   ·intro w' s0
    obtain ⟨x0, x1, x2, _⟩ := bk3 (blk_below H7.out s0)
    go_simp
    with_reducible rfl
   rotate_left
   ·simp only [Act.put, List.setIfInBounds_toArray, List.set_cons_zero, List.set_cons_succ, i64_w, i32_w]
    rfl
   refine one_ (i := 54) (N := some 103) (tf 56 3) rfl rfl (one_of HT_.out (by kernel_rfl)) (by decide) (fun K hK => ?_)
   refine goes_ Tryd.func22 (by kernel_rfl) rfl #[.agg #[.map (some bx)], .agg #[.int .i64 n0, .int .i64 n1, .string n2]] (by rfl) rfl rfl (by simp only [List.map_toArray, List.map_cons, List.map_nil]; rfl) ?_
   refine (set_With (some bx) X ⟨n0, n1, n2⟩ _ (HSX.out.below hHeld) HWN.out (by have := HLX.out; omega)).mono ?_
   rintro e w954 ⟨b54, rfl, _, hs54, hb⟩
   refine ⟨_, rfl, ?_⟩
   have HS54 := Aside0.mk hs54
   clear hs54
   refine hK.out _ _ (below_step hHeld hb) (fun hHeld => ?_)
   clear hK K
   refine norm_ (a' := ?_) ?_ ?_
   rotate_left
   ·show Act.put _ (some 103) _ = _
    simp only [Act.put, List.setIfInBounds_toArray, List.set_cons_zero, List.set_cons_succ, i64_w, i32_w]
    rfl
   refine one_ (i := 56) (N := some 105) (tf 57 2) rfl rfl (one_of HT_.out (by kernel_rfl)) (by decide) (fun K hK => ?_)
   refine goes_ Tryd.func25 (by kernel_rfl) rfl #[.agg #[.map (some b54)], .agg #[.int .i64 n0, .int .i64 n1, .string n2]] (by rfl) rfl rfl (by simp only [List.map_toArray, List.map_cons, List.map_nil]; rfl) ?_
   refine (has_q true (some b54) (addR X ⟨n0, n1, n2⟩) ⟨n0, n1, n2⟩ _ HS54.out HWN.out HXN.out).mono ?_
   rintro e w956 ⟨rfl, hb⟩
   refine ⟨_, rfl, ?_⟩
   refine hK.out _ _ (below_step hHeld hb) (fun hHeld => ?_)
   clear hK K
   refine norm_ (a' := ?_) ?_ ?_
   rotate_left
   ·show Act.put _ (some 105) _ = _
    simp only [Act.put, List.setIfInBounds_toArray, List.set_cons_zero, List.set_cons_succ, i64_w, i32_w]
    rfl
   refine pure_ (i := 57) (N := some 106) (v := ?_) (a' := ?_) (tf 58 1) rfl rfl (any_of HT_.out (by kernel_rfl)) (fun _ _ _ h => h) (Or.inl ⟨by rfl, ?_⟩) ?_ ?_
   rotate_left
   ·intro w'
    go_simp
    with_reducible rfl
   rotate_left
   ·simp only [Act.put, List.setIfInBounds_toArray, List.set_cons_zero, List.set_cons_succ, i64_w, i32_w]
    rfl
   refine pure_ (i := 58) (N := some 107) (v := ?_) (a' := ?_) (tf 59 0) rfl rfl (any_of HT_.out (by kernel_rfl)) (fun _ _ _ h => h) (Or.inl ⟨by rfl, ?_⟩) ?_ ?_
   rotate_left
   ·intro w'
    go_simp
    with_reducible rfl
   rotate_left
   ·simp only [Act.put, List.setIfInBounds_toArray, List.set_cons_zero, List.set_cons_succ, i64_w, i32_w]
    rfl
   refine done_ (done_of HT_.out (by kernel_rfl)) ?_
   have hp1 := bk1 (blk_below G12.out hHeld)
   go_wp2_with fail
   clear hp1
   refine (set_List (some bp) P _ (HSP.out.below hHeld) (by have := HLP.out; omega)).mono ?_
   rintro e wl ⟨vl, rfl, hrl, hb⟩
   obtain ⟨Al, cl, el⟩ := Kd.R_slice hrl
   subst el
   have HL := Aside0.mk (Kd.R_reads' hrl).2.2
   have HBL := Aside0.mk (below_step HB.out (below_step hHeld hb))
   clear hrl hb hHeld HT_ HW_ HSX HSY HSZ HSP HSQ G9 G10 G11 G12 G13 H7 HB
   have hpl : P.length ≤ 1000 := by have := HLP.out; omega
   go_upto_region 14 with (fail)
   go_loopw [15] (fun v15 wr => ∃ (i : Nat), v15 = .int .i64 i ∧ i ≤ P.length ∧ Aside0 (Below wl.heap.size wl wr)) (fun v15 _ => P.length - (intOf v15).toNat)
   case atStart => exact ⟨0, rfl, Nat.zero_le _, ⟨Below.refl _ _⟩⟩
   case round =>
    obtain ⟨i, rfl, hi, HW⟩ := hrel
    by_cases hlt : i < P.length
    ·go_upto_region 17 with (fail)
     go_loopw [16] (fun v16 wq => ∃ (k : Nat), v16 = .int .i64 k ∧ k ≤ P.length ∧ Aside0 (Below wl.heap.size wl wq)) (fun v16 _ => P.length - (intOf v16).toNat)
     case atStart => exact ⟨0, rfl, Nat.zero_le _, HW⟩
     case round =>
      clear HW
      obtain ⟨k, rfl, hk, HW⟩ := hrel
      by_cases hlk : k < P.length
      ·obtain ⟨x, ex⟩ : ∃ x, x = P[i] := ⟨_, rfl⟩
       obtain ⟨y, ey⟩ : ∃ y, y = P[k] := ⟨_, rfl⟩
       obtain ⟨adx, e, _⟩ := at_T24 HL.out (i : Int) (by omega) (by omega)
       subst e
       have hrx : rd_T24 P (i : Int) = x := by rw [ex]; unfold rd_T24; rw [Int.toNat_natCast]; simp [hlt]
       have hry : rd_T24 P (k : Int) = y := by rw [ey]; unfold rd_T24; rw [Int.toNat_natCast]; simp [hlk]
       have HCX : Aside0 (∀ w', Below wl.heap.size wl w' → w'.cell? (adx.add (i * 3)) = some (.int .i64 x.f0) ∧ w'.cell? ⟨(adx.add (i * 3)).block, (adx.add (i * 3)).off + 1, none⟩ = some (.int .i64 x.f1) ∧ w'.cell? ⟨(adx.add (i * 3)).block, (adx.add (i * 3)).off + 2, none⟩ = some (.string x.f2)) := ⟨fun w' hb => by
        obtain ⟨ad, e, h0, h1, h2⟩ := at_T24 (Kd.C_below HL.out hb) (i : Int) (by omega) (by omega)
        cases e
        rw [hrx] at h0 h1 h2
        exact ⟨h0, h1, h2⟩⟩
       have HCY : Aside0 (∀ w', Below wl.heap.size wl w' → w'.cell? (adx.add (k * 3)) = some (.int .i64 y.f0) ∧ w'.cell? ⟨(adx.add (k * 3)).block, (adx.add (k * 3)).off + 1, none⟩ = some (.int .i64 y.f1) ∧ w'.cell? ⟨(adx.add (k * 3)).block, (adx.add (k * 3)).off + 2, none⟩ = some (.string y.f2)) := ⟨fun w' hb => by
        obtain ⟨ad, e, h0, h1, h2⟩ := at_T24 (Kd.C_below HL.out hb) (k : Int) (by omega) (by omega)
        cases e
        rw [hry] at h0 h1 h2
        exact ⟨h0, h1, h2⟩⟩
       obtain ⟨e1, e2, e3⟩ := cmp_at HUP.out hlt hlk
       rw [← ex, ← ey] at e1 e2 e3
       obtain ⟨d, hd⟩ : ∃ d, cmpN x y = d := ⟨_, rfl⟩
       obtain ⟨d2, hd2⟩ : ∃ d, cmpN y x = d := ⟨_, rfl⟩
       rw [hd] at e1 e2 e3
       rw [hd2] at e3
       have HD := Aside0.mk hd; have HD2 := Aside0.mk hd2; have HE1 := Aside0.mk e1; have HE2 := Aside0.mk e2; have HE3 := Aside0.mk e3
       clear hrx hry ex ey e1 e2 e3 hd hd2
       go_upto_region 19 with (fail)
       refine start_ (n := 10) (S := fun w' => Below wr.heap.size wr w') (ds := []) (tf 0 10) (by kernel_rfl) rfl rfl ((below_drew1 (Below.refl _ _))) (fun hHeld => ?_)
       refine with_tabW lawJoins.tab19 lawJoins.bits19 (fun HT_ HW_ => ?_)
       refine pure_ (i := 0) (N := some 122) (v := ?_) (a' := ?_) (tf 1 9) rfl rfl (any_of HT_.out (by kernel_rfl)) (fun _ _ _ h => h) (Or.inl ⟨by rfl, ?_⟩) ?_ ?_
       rotate_left
       ·intro w'
        go_simp
        with_reducible rfl
       rotate_left
       ·simp only [Act.put, List.setIfInBounds_toArray, List.set_cons_zero, List.set_cons_succ, i64_w, i32_w]
        rfl
       refine pure_ (i := 1) (N := some 123) (v := ?_) (a' := ?_) (tf 2 8) rfl rfl (any_of HT_.out (by kernel_rfl)) (fun _ _ _ h => h) (Or.inl ⟨by rfl, ?_⟩) ?_ ?_
       rotate_left
       ·intro w'
        go_simp
        with_reducible rfl
       rotate_left
       ·simp only [Act.put, List.setIfInBounds_toArray, List.set_cons_zero, List.set_cons_succ, i64_w, i32_w]
        rfl
       refine pure_ (i := 2) (N := some 124) (v := ?_) (a' := ?_) (tf 3 7) rfl rfl (any_of HT_.out (by kernel_rfl)) (fun _ _ _ h => h) (Or.inl ⟨by rfl, ?_⟩) ?_ ?_
       rotate_left
       ·intro w'
        go_simp
        with_reducible rfl
       rotate_left
       ·simp only [Act.put, List.setIfInBounds_toArray, List.set_cons_zero, List.set_cons_succ, i64_w, i32_w]
        rfl
       refine pure_ (i := 4) (N := some 126) (v := ?_) (a' := ?_) #[true, true, true, false, true, false, false, false, false, false] rfl rfl (any_of HT_.out (by kernel_rfl)) (fun _ _ _ h => h) (Or.inl ⟨by rfl, ?_⟩) ?_ ?_
       rotate_left
       ·intro w'
        go_simp
        with_reducible rfl
       rotate_left
       ·simp only [Act.put, List.setIfInBounds_toArray, List.set_cons_zero, List.set_cons_succ, i64_w, i32_w]
        rfl
       refine pure_ (i := 5) (N := some 127) (v := ?_) (a' := ?_) #[true, true, true, false, true, true, false, false, false, false] rfl rfl (any_of HT_.out (by kernel_rfl)) (fun _ _ _ h => h) (Or.inl ⟨by rfl, ?_⟩) ?_ ?_
       rotate_left
       ·intro w'
        go_simp
        with_reducible rfl
       rotate_left
       ·simp only [Act.put, List.setIfInBounds_toArray, List.set_cons_zero, List.set_cons_succ, i64_w, i32_w]
        rfl
       refine pure_ (i := 6) (N := some 128) (v := ?_) (a' := ?_) #[true, true, true, false, true, true, true, false, false, false] rfl rfl (any_of HT_.out (by kernel_rfl)) (fun _ _ _ h => h) (Or.inl ⟨by rfl, ?_⟩) ?_ ?_
       rotate_left
       ·intro w'
        go_simp
        with_reducible rfl
       rotate_left
       ·simp only [Act.put, List.setIfInBounds_toArray, List.set_cons_zero, List.set_cons_succ, i64_w, i32_w]
        rfl
       refine take_ (i := 3) (N := some 125) (v := ?_) (a' := ?_) (tf 7 3) rfl rfl (take_ofW HT_.out HW_.out (by kernel_rfl)) (fun _ _ _ h => h) (Or.inl ⟨by rfl, ?_⟩) hHeld ?_ ?_
       rotate_left
       ·intro w' s0
        obtain ⟨x0, x1, x2⟩ := HCX.out w' (below_step HW.out s0)
        go_simp
        with_reducible rfl
       rotate_left
       ·simp only [Act.put, List.setIfInBounds_toArray, List.set_cons_zero, List.set_cons_succ, i64_w, i32_w]
        rfl
       refine take_ (i := 7) (N := some 129) (v := ?_) (a' := ?_) (tf 8 2) rfl rfl (take_ofW HT_.out HW_.out (by kernel_rfl)) (fun _ _ _ h => h) (Or.inl ⟨by rfl, ?_⟩) hHeld ?_ ?_
       rotate_left
       ·intro w' s0
        obtain ⟨x0, x1, x2⟩ := HCY.out w' (below_step HW.out s0)
        go_simp
        with_reducible rfl
       rotate_left
       ·simp only [Act.put, List.setIfInBounds_toArray, List.set_cons_zero, List.set_cons_succ, i64_w, i32_w]
        rfl
       refine one_ (i := 8) (N := some 130) (tf 9 1) rfl rfl (one_of HT_.out (by kernel_rfl)) (by decide) (fun K hK => ?_)
       refine goes_ Tryd.func12 (by kernel_rfl) rfl #[.agg #[.int .i64 x.f0, .int .i64 x.f1, .string x.f2], .agg #[.int .i64 y.f0, .int .i64 y.f1, .string y.f2]] (by rfl) rfl rfl (by simp only [List.map_toArray, List.map_cons, List.map_nil]; rfl) ?_
       refine (cmp_d d x y _ HD.out).mono ?_
       rintro e w908 ⟨rfl, hb⟩
       refine ⟨_, rfl, ?_⟩
       refine hK.out _ _ (below_step hHeld hb) (fun hHeld => ?_)
       clear hK K
       refine norm_ (a' := ?_) ?_ ?_
       rotate_left
       ·show Act.put _ (some 130) _ = _
        simp only [Act.put, List.setIfInBounds_toArray, List.set_cons_zero, List.set_cons_succ, i64_w, i32_w]
        rfl
       refine pure_ (i := 9) (N := some 17) (v := ?_) (a' := ?_) (tf 10 0) rfl rfl (any_of HT_.out (by kernel_rfl)) (fun _ _ _ h => h) (Or.inl ⟨by rfl, ?_⟩) ?_ ?_
       rotate_left
       ·intro w'
        go_simp
        with_reducible rfl
       rotate_left
       ·simp only [Act.put, List.setIfInBounds_toArray, List.set_cons_zero, List.set_cons_succ, i64_w, i32_w]
        rfl
       refine done_ (done_of HT_.out (by kernel_rfl)) ?_
       obtain ⟨wr2, hw2⟩ : ∃ z, z = w908 := ⟨_, rfl⟩
       rw [← hw2] at hHeld ⊢
       have HW := Aside0.mk (below_step HW.out hHeld)
       clear hHeld hw2 HT_ HW_
       have e1 := HE1.out; have e2 := HE2.out; have e3 := HE3.out
       go_upto_region 20 with (fail)
       refine start_ (n := 28) (S := fun w' => Below wr2.heap.size wr2 w') (ds := []) (tf 0 28) (by kernel_rfl) rfl rfl ((below_drew1 (Below.refl _ _))) (fun hHeld => ?_)
       refine with_tabW lawJoins.tab20 lawJoins.bits20 (fun HT_ HW_ => ?_)
       refine pure_ (i := 0) (N := some 131) (v := ?_) (a' := ?_) (tf 1 27) rfl rfl (any_of HT_.out (by kernel_rfl)) (fun _ _ _ h => h) (Or.inl ⟨by rfl, ?_⟩) ?_ ?_
       rotate_left
       ·intro w'
        go_simp
        with_reducible rfl
       rotate_left
       ·simp only [Act.put, List.setIfInBounds_toArray, List.set_cons_zero, List.set_cons_succ, i64_w, i32_w]
        rfl
       refine pure_ (i := 1) (N := some 132) (v := ?_) (a' := ?_) (tf 2 26) rfl rfl (any_of HT_.out (by kernel_rfl)) (fun _ _ _ h => h) (Or.inl ⟨by rfl, ?_⟩) ?_ ?_
       rotate_left
       ·intro w'
        go_simp
        with_reducible rfl
       rotate_left
       ·simp only [Act.put, List.setIfInBounds_toArray, List.set_cons_zero, List.set_cons_succ, i64_w, i32_w]
        rfl
       refine pure_ (i := 2) (N := some 133) (v := ?_) (a' := ?_) (tf 3 25) rfl rfl (any_of HT_.out (by kernel_rfl)) (fun _ _ _ h => h) (Or.inl ⟨by rfl, ?_⟩) ?_ ?_
       rotate_left
       ·intro w'
        go_simp
        with_reducible rfl
       rotate_left
       ·simp only [Act.put, List.setIfInBounds_toArray, List.set_cons_zero, List.set_cons_succ, i64_w, i32_w]
        rfl
       refine pure_ (i := 3) (N := some 134) (v := ?_) (a' := ?_) (tf 4 24) rfl rfl (any_of HT_.out (by kernel_rfl)) (fun _ _ _ h => h) (Or.inl ⟨by rfl, ?_⟩) ?_ ?_
       rotate_left
       ·intro w'
        go_simp
        with_reducible rfl
       rotate_left
       ·simp only [Act.put, List.setIfInBounds_toArray, List.set_cons_zero, List.set_cons_succ, i64_w, i32_w]
        rfl
       refine pure_ (i := 4) (N := some 135) (v := ?_) (a' := ?_) (tf 5 23) rfl rfl (any_of HT_.out (by kernel_rfl)) (fun _ _ _ h => h) (Or.inl ⟨by rfl, ?_⟩) ?_ ?_
       rotate_left
       ·intro w'
        go_simp
        with_reducible rfl
       rotate_left
       ·simp only [Act.put, List.setIfInBounds_toArray, List.set_cons_zero, List.set_cons_succ, i64_w, i32_w]
        rfl
       refine pure_ (i := 5) (N := some 136) (v := ?_) (a' := ?_) (tf 6 22) rfl rfl (any_of HT_.out (by kernel_rfl)) (fun _ _ _ h => h) (Or.inl ⟨by rfl, ?_⟩) ?_ ?_
       rotate_left
       ·intro w'
        go_simp
        with_reducible rfl
       rotate_left
       ·simp only [Act.put, List.setIfInBounds_toArray, List.set_cons_zero, List.set_cons_succ, i64_w, i32_w]
        rfl
       refine pure_ (i := 6) (N := some 137) (v := ?_) (a' := ?_) (tf 7 21) rfl rfl (any_of HT_.out (by kernel_rfl)) (fun _ _ _ h => h) (Or.inl ⟨by rfl, ?_⟩) ?_ ?_
       rotate_left
       ·intro w'
        go_simp
        with_reducible rfl
       rotate_left
       ·simp only [Act.put, List.setIfInBounds_toArray, List.set_cons_zero, List.set_cons_succ, i64_w, i32_w]
        rfl
       refine pure_ (i := 7) (N := some 138) (v := ?_) (a' := ?_) (tf 8 20) rfl rfl (any_of HT_.out (by kernel_rfl)) (fun _ _ _ h => h) (Or.inl ⟨by rfl, ?_⟩) ?_ ?_
       rotate_left
       ·intro w'
        go_simp
        with_reducible rfl
       rotate_left
       ·simp only [Act.put, List.setIfInBounds_toArray, List.set_cons_zero, List.set_cons_succ, i64_w, i32_w]
        rfl
       refine pure_ (i := 8) (N := some 139) (v := ?_) (a' := ?_) (tf 9 19) rfl rfl (any_of HT_.out (by kernel_rfl)) (fun _ _ _ h => h) (Or.inl ⟨by rfl, ?_⟩) ?_ ?_
       rotate_left
       ·intro w'
        go_simp
        with_reducible rfl
       rotate_left
       ·simp only [Act.put, List.setIfInBounds_toArray, List.set_cons_zero, List.set_cons_succ, i64_w, i32_w]
        rfl
       refine pure_ (i := 9) (N := some 140) (v := ?_) (a' := ?_) (tf 10 18) rfl rfl (any_of HT_.out (by kernel_rfl)) (fun _ _ _ h => h) (Or.inl ⟨by rfl, ?_⟩) ?_ ?_
       rotate_left
       ·intro w'
        go_simp
        with_reducible rfl
       rotate_left
       ·simp only [Act.put, List.setIfInBounds_toArray, List.set_cons_zero, List.set_cons_succ, i64_w, i32_w]
        rfl
       refine pure_ (i := 10) (N := some 141) (v := ?_) (a' := ?_) (tf 11 17) rfl rfl (any_of HT_.out (by kernel_rfl)) (fun _ _ _ h => h) (Or.inl ⟨by rfl, ?_⟩) ?_ ?_
       rotate_left
       ·intro w'
        go_simp
        with_reducible rfl
       rotate_left
       ·simp only [Act.put, List.setIfInBounds_toArray, List.set_cons_zero, List.set_cons_succ, i64_w, i32_w]
        rfl
       refine pure_ (i := 11) (N := some 142) (v := ?_) (a' := ?_) (tf 12 16) rfl rfl (any_of HT_.out (by kernel_rfl)) (fun _ _ _ h => h) (Or.inl ⟨by rfl, ?_⟩) ?_ ?_
       rotate_left
       ·intro w'
        go_simp
        with_reducible rfl
       rotate_left
       ·simp only [Act.put, List.setIfInBounds_toArray, List.set_cons_zero, List.set_cons_succ, i64_w, i32_w]
        rfl
       refine pure_ (i := 12) (N := some 143) (v := ?_) (a' := ?_) (tf 13 15) rfl rfl (any_of HT_.out (by kernel_rfl)) (fun _ _ _ h => h) (Or.inl ⟨by rfl, ?_⟩) ?_ ?_
       rotate_left
       ·intro w'
        go_simp
        with_reducible rfl
       rotate_left
       ·simp only [Act.put, List.setIfInBounds_toArray, List.set_cons_zero, List.set_cons_succ, i64_w, i32_w]
        rfl
       refine pure_ (i := 13) (N := some 144) (v := ?_) (a' := ?_) (tf 14 14) rfl rfl (any_of HT_.out (by kernel_rfl)) (fun _ _ _ h => h) (Or.inl ⟨by rfl, ?_⟩) ?_ ?_
       rotate_left
       ·intro w'
        go_simp
        with_reducible rfl
       rotate_left
       ·simp only [Act.put, List.setIfInBounds_toArray, List.set_cons_zero, List.set_cons_succ, i64_w, i32_w]
        rfl
       refine pure_ (i := 14) (N := some 145) (v := ?_) (a' := ?_) (tf 15 13) rfl rfl (any_of HT_.out (by kernel_rfl)) (fun _ _ _ h => h) (Or.inl ⟨by rfl, ?_⟩) ?_ ?_
       rotate_left
       ·intro w'
        go_simp
        with_reducible rfl
       rotate_left
       ·simp only [Act.put, List.setIfInBounds_toArray, List.set_cons_zero, List.set_cons_succ, i64_w, i32_w]
        rfl
       refine pure_ (i := 15) (N := some 146) (v := ?_) (a' := ?_) (tf 16 12) rfl rfl (any_of HT_.out (by kernel_rfl)) (fun _ _ _ h => h) (Or.inl ⟨by rfl, ?_⟩) ?_ ?_
       rotate_left
       ·intro w'
        go_simp
        with_reducible rfl
       rotate_left
       ·simp only [Act.put, List.setIfInBounds_toArray, List.set_cons_zero, List.set_cons_succ, i64_w, i32_w]
        rfl
       refine pure_ (i := 16) (N := some 147) (v := ?_) (a' := ?_) (tf 17 11) rfl rfl (any_of HT_.out (by kernel_rfl)) (fun _ _ _ h => h) (Or.inl ⟨by rfl, ?_⟩) ?_ ?_
       rotate_left
       ·intro w'
        go_simp
        with_reducible rfl
       rotate_left
       ·simp only [Act.put, List.setIfInBounds_toArray, List.set_cons_zero, List.set_cons_succ, i64_w, i32_w]
        rfl
       refine pure_ (i := 17) (N := some 148) (v := ?_) (a' := ?_) (tf 18 10) rfl rfl (any_of HT_.out (by kernel_rfl)) (fun _ _ _ h => h) (Or.inl ⟨by rfl, ?_⟩) ?_ ?_
       rotate_left
       ·intro w'
        go_simp
        with_reducible rfl
       rotate_left
       ·simp only [Act.put, List.setIfInBounds_toArray, List.set_cons_zero, List.set_cons_succ, i64_w, i32_w]
        rfl
       refine pure_ (i := 18) (N := some 149) (v := ?_) (a' := ?_) (tf 19 9) rfl rfl (any_of HT_.out (by kernel_rfl)) (fun _ _ _ h => h) (Or.inl ⟨by rfl, ?_⟩) ?_ ?_
       rotate_left
       ·intro w'
        go_simp
        with_reducible rfl
       rotate_left
       ·simp only [Act.put, List.setIfInBounds_toArray, List.set_cons_zero, List.set_cons_succ, i64_w, i32_w]
        rfl
       refine pure_ (i := 20) (N := some 151) (v := ?_) (a' := ?_) #[true, true, true, true, true, true, true, true, true, true, true, true, true, true, true, true, true, true, true, false, true, false, false, false, false, false, false, false] rfl rfl (any_of HT_.out (by kernel_rfl)) (fun _ _ _ h => h) (Or.inl ⟨by rfl, ?_⟩) ?_ ?_
       rotate_left
       ·intro w'
        go_simp
        with_reducible rfl
       rotate_left
       ·simp only [Act.put, List.setIfInBounds_toArray, List.set_cons_zero, List.set_cons_succ, i64_w, i32_w]
        rfl
       refine pure_ (i := 21) (N := some 152) (v := ?_) (a' := ?_) #[true, true, true, true, true, true, true, true, true, true, true, true, true, true, true, true, true, true, true, false, true, true, false, false, false, false, false, false] rfl rfl (any_of HT_.out (by kernel_rfl)) (fun _ _ _ h => h) (Or.inl ⟨by rfl, ?_⟩) ?_ ?_
       rotate_left
       ·intro w'
        go_simp
        with_reducible rfl
       rotate_left
       ·simp only [Act.put, List.setIfInBounds_toArray, List.set_cons_zero, List.set_cons_succ, i64_w, i32_w]
        rfl
       refine pure_ (i := 22) (N := some 153) (v := ?_) (a' := ?_) #[true, true, true, true, true, true, true, true, true, true, true, true, true, true, true, true, true, true, true, false, true, true, true, false, false, false, false, false] rfl rfl (any_of HT_.out (by kernel_rfl)) (fun _ _ _ h => h) (Or.inl ⟨by rfl, ?_⟩) ?_ ?_
       rotate_left
       ·intro w'
        go_simp
        with_reducible rfl
       rotate_left
       ·simp only [Act.put, List.setIfInBounds_toArray, List.set_cons_zero, List.set_cons_succ, i64_w, i32_w]
        rfl
       refine take_ (i := 19) (N := some 150) (v := ?_) (a' := ?_) (tf 23 5) rfl rfl (take_ofW HT_.out HW_.out (by kernel_rfl)) (fun _ _ _ h => h) (Or.inl ⟨by rfl, ?_⟩) hHeld ?_ ?_
       rotate_left
       ·intro w' s0
        obtain ⟨x0, x1, x2⟩ := HCY.out w' (below_step HW.out s0)
        go_simp
        with_reducible rfl
       rotate_left
       ·simp only [Act.put, List.setIfInBounds_toArray, List.set_cons_zero, List.set_cons_succ, i64_w, i32_w]
        rfl
       refine take_ (i := 23) (N := some 154) (v := ?_) (a' := ?_) (tf 24 4) rfl rfl (take_ofW HT_.out HW_.out (by kernel_rfl)) (fun _ _ _ h => h) (Or.inl ⟨by rfl, ?_⟩) hHeld ?_ ?_
       rotate_left
       ·intro w' s0
        obtain ⟨x0, x1, x2⟩ := HCX.out w' (below_step HW.out s0)
        go_simp
        with_reducible rfl
       rotate_left
       ·simp only [Act.put, List.setIfInBounds_toArray, List.set_cons_zero, List.set_cons_succ, i64_w, i32_w]
        rfl
       refine one_ (i := 24) (N := some 155) (tf 25 3) rfl rfl (one_of HT_.out (by kernel_rfl)) (by decide) (fun K hK => ?_)
       refine goes_ Tryd.func12 (by kernel_rfl) rfl #[.agg #[.int .i64 y.f0, .int .i64 y.f1, .string y.f2], .agg #[.int .i64 x.f0, .int .i64 x.f1, .string x.f2]] (by rfl) rfl rfl (by simp only [List.map_toArray, List.map_cons, List.map_nil]; rfl) ?_
       refine (cmp_d d2 y x _ HD2.out).mono ?_
       rintro e w924 ⟨rfl, hb⟩
       refine ⟨_, rfl, ?_⟩
       refine hK.out _ _ (below_step hHeld hb) (fun hHeld => ?_)
       clear hK K
       refine norm_ (a' := ?_) ?_ ?_
       rotate_left
       ·show Act.put _ (some 155) _ = _
        simp only [Act.put, List.setIfInBounds_toArray, List.set_cons_zero, List.set_cons_succ, i64_w, i32_w]
        rfl
       refine pure_ (i := 25) (N := some 156) (v := ?_) (a' := ?_) (tf 26 2) rfl rfl (any_of HT_.out (by kernel_rfl)) (fun _ _ _ h => h) (Or.inl ⟨by rfl, ?_⟩) ?_ ?_
       rotate_left
       ·intro w'
        go_simp
        with_reducible rfl
       rotate_left
       ·simp only [Act.put, List.setIfInBounds_toArray, List.set_cons_zero, List.set_cons_succ, i64_w, i32_w]
        rfl
       refine pure_ (i := 26) (N := some 157) (v := ?_) (a' := ?_) (tf 27 1) rfl rfl (any_of HT_.out (by kernel_rfl)) (fun _ _ _ h => h) (Or.inl ⟨by rfl, ?_⟩) ?_ ?_
       rotate_left
       ·intro w'
        go_simp
        with_reducible rfl
       rotate_left
       ·simp only [Act.put, List.setIfInBounds_toArray, List.set_cons_zero, List.set_cons_succ, i64_w, i32_w]
        rfl
       refine pure_ (i := 27) (N := some 158) (v := ?_) (a' := ?_) (tf 28 0) rfl rfl (any_of HT_.out (by kernel_rfl)) (fun _ _ _ h => h) (Or.inl ⟨by rfl, ?_⟩) ?_ ?_
       rotate_left
       ·intro w'
        go_simp
        with_reducible rfl
       rotate_left
       ·simp only [Act.put, List.setIfInBounds_toArray, List.set_cons_zero, List.set_cons_succ, i64_w, i32_w]
        rfl
       refine done_ (done_of HT_.out (by kernel_rfl)) ?_
       have HW := Aside0.mk (below_step HW.out hHeld)
       clear hHeld HT_ HW_
       go_wp2
       go_roundw
       case rel => exact ⟨k + 1, by simp, by omega, HW⟩
       case measure => show P.length - ((k : Int) + 1).toNat < P.length - (k : Int).toNat; omega
      ·go_wp2
       go_roundw
       case rel => exact ⟨i + 1, by simp, by omega, HW⟩
       case measure => show P.length - ((i : Int) + 1).toNat < P.length - (i : Int).toNat; omega
    ·go_wp2
     go_ret
     exact ⟨rfl, below_step HBL.out HW.out⟩
  ·have HNX : Aside0 (decB ((⟨n0, n1, n2⟩ : Nd) ∈ X) = false) := ⟨decB_false hnx⟩
   have HNY : Aside0 (decB ((⟨n0, n1, n2⟩ : Nd) ∈ Y) = false) := ⟨decB_false hny⟩
   obtain ⟨q, hq⟩ : ∃ q, decB ((⟨n0, n1, n2⟩ : Nd) ∈ Z) = q := ⟨_, rfl⟩
   have HNZ := Aside0.mk hq
   have HNP : Aside0 (decB ((⟨n0, n1, n2⟩ : Nd) ∈ P) = q) := ⟨by
    rw [← hq]
    by_cases hnz : (⟨n0, n1, n2⟩ : Nd) ∈ Z
    ·rw [decB_true hnz, decB_true (HMP.out.mpr (.inr hnz))]
    ·rw [decB_false hnz, decB_false (fun h => (HMP.out.mp h).elim (fun h => h.elim hnx hny) hnz)]⟩
   clear hnx hny hq
   go_upto_region 10 with (fail)
   refine start_ (n := 59) (S := fun w' => Below ws.heap.size ws w') (ds := []) (tf 0 59) (by kernel_rfl) rfl rfl ((below_drew1 (Below.refl _ _))) (fun hHeld => ?_)
   refine with_tabW lawJoins.tab10 lawJoins.bits10 (fun HT_ HW_ => ?_)
   refine take_ (i := 0) (N := some 49) (v := ?_) (a' := ?_) (tf 1 58) rfl rfl (take_ofW HT_.out HW_.out (by kernel_rfl)) (fun _ _ _ h => h) (Or.inl ⟨by rfl, ?_⟩) hHeld ?_ ?_
   rotate_left
   ·intro w' s0
    obtain ⟨x0, _⟩ := bk1 (blk_below G12.out s0)
    go_simp
    with_reducible rfl
   rotate_left
   ·simp only [Act.put, List.setIfInBounds_toArray, List.set_cons_zero, List.set_cons_succ, i64_w, i32_w]
    rfl
   refine take_ (i := 1) (N := some 50) (v := ?_) (a' := ?_) (tf 2 57) rfl rfl (take_ofW HT_.out HW_.out (by kernel_rfl)) (fun _ _ _ h => h) (Or.inl ⟨by rfl, ?_⟩) hHeld ?_ ?_
   rotate_left
   ·intro w' s0
    obtain ⟨x0, _⟩ := bk1 (blk_below G13.out s0)
    go_simp
    with_reducible rfl
   rotate_left
   ·simp only [Act.put, List.setIfInBounds_toArray, List.set_cons_zero, List.set_cons_succ, i64_w, i32_w]
    rfl
   refine one_ (i := 2) (N := some 51) (tf 3 56) rfl rfl (one_of HT_.out (by kernel_rfl)) (by decide) (fun K hK => ?_)
   refine goes_ Tryd.func23 (by kernel_rfl) rfl #[.agg #[.map (some bp)], .agg #[.map (some bq)]] (by rfl) rfl rfl (by simp only [List.map_toArray, List.map_cons, List.map_nil]; rfl) ?_
   refine (within_p true (some bp) (some bq) P P _ (HSP.out.below hHeld) (HSQ.out.below hHeld) HPP.out).mono ?_
   rintro e w902 ⟨rfl, hb⟩
   refine ⟨_, rfl, ?_⟩
   refine hK.out _ _ (below_step hHeld hb) (fun hHeld => ?_)
   clear hK K
   refine norm_ (a' := ?_) ?_ ?_
   rotate_left
   ·show Act.put _ (some 51) _ = _
    simp only [Act.put, List.setIfInBounds_toArray, List.set_cons_zero, List.set_cons_succ, i64_w, i32_w]
    rfl
   refine pure_ (i := 3) (N := some 52) (v := ?_) (a' := ?_) (tf 4 55) rfl rfl (any_of HT_.out (by kernel_rfl)) (fun _ _ _ h => h) (Or.inl ⟨by rfl, ?_⟩) ?_ ?_
   rotate_left
   ·intro w'
    go_simp
    with_reducible rfl
   rotate_left
   ·simp only [Act.put, List.setIfInBounds_toArray, List.set_cons_zero, List.set_cons_succ, i64_w, i32_w]
    rfl
   refine pure_ (i := 4) (N := some 53) (v := ?_) (a' := ?_) (tf 5 54) rfl rfl (any_of HT_.out (by kernel_rfl)) (fun _ _ _ h => h) (Or.inl ⟨by rfl, ?_⟩) ?_ ?_
   rotate_left
   ·intro w'
    go_simp
    with_reducible rfl
   rotate_left
   ·simp only [Act.put, List.setIfInBounds_toArray, List.set_cons_zero, List.set_cons_succ, i64_w, i32_w]
    rfl
   refine take_ (i := 5) (N := some 54) (v := ?_) (a' := ?_) (tf 6 53) rfl rfl (take_ofW HT_.out HW_.out (by kernel_rfl)) (fun _ _ _ h => h) (Or.inl ⟨by rfl, ?_⟩) hHeld ?_ ?_
   rotate_left
   ·intro w' s0
    obtain ⟨x0, _⟩ := bk1 (blk_below G13.out s0)
    go_simp
    with_reducible rfl
   rotate_left
   ·simp only [Act.put, List.setIfInBounds_toArray, List.set_cons_zero, List.set_cons_succ, i64_w, i32_w]
    rfl
   refine take_ (i := 6) (N := some 55) (v := ?_) (a' := ?_) (tf 7 52) rfl rfl (take_ofW HT_.out HW_.out (by kernel_rfl)) (fun _ _ _ h => h) (Or.inl ⟨by rfl, ?_⟩) hHeld ?_ ?_
   rotate_left
   ·intro w' s0
    obtain ⟨x0, _⟩ := bk1 (blk_below G12.out s0)
    go_simp
    with_reducible rfl
   rotate_left
   ·simp only [Act.put, List.setIfInBounds_toArray, List.set_cons_zero, List.set_cons_succ, i64_w, i32_w]
    rfl
   refine one_ (i := 7) (N := some 56) (tf 8 51) rfl rfl (one_of HT_.out (by kernel_rfl)) (by decide) (fun K hK => ?_)
   refine goes_ Tryd.func23 (by kernel_rfl) rfl #[.agg #[.map (some bq)], .agg #[.map (some bp)]] (by rfl) rfl rfl (by simp only [List.map_toArray, List.map_cons, List.map_nil]; rfl) ?_
   refine (within_p true (some bq) (some bp) P P _ (HSQ.out.below hHeld) (HSP.out.below hHeld) HPP.out).mono ?_
   rintro e w907 ⟨rfl, hb⟩
   refine ⟨_, rfl, ?_⟩
   refine hK.out _ _ (below_step hHeld hb) (fun hHeld => ?_)
   clear hK K
   refine norm_ (a' := ?_) ?_ ?_
   rotate_left
   ·show Act.put _ (some 56) _ = _
    simp only [Act.put, List.setIfInBounds_toArray, List.set_cons_zero, List.set_cons_succ, i64_w, i32_w]
    rfl
   refine pure_ (i := 8) (N := some 57) (v := ?_) (a' := ?_) (tf 9 50) rfl rfl (any_of HT_.out (by kernel_rfl)) (fun _ _ _ h => h) (Or.inl ⟨by rfl, ?_⟩) ?_ ?_
   rotate_left
   ·intro w'
    go_simp
    with_reducible rfl
   rotate_left
   ·simp only [Act.put, List.setIfInBounds_toArray, List.set_cons_zero, List.set_cons_succ, i64_w, i32_w]
    rfl
   refine pure_ (i := 9) (N := some 58) (v := ?_) (a' := ?_) (tf 10 49) rfl rfl (any_of HT_.out (by kernel_rfl)) (fun _ _ _ h => h) (Or.inl ⟨by rfl, ?_⟩) ?_ ?_
   rotate_left
   ·intro w'
    go_simp
    with_reducible rfl
   rotate_left
   ·simp only [Act.put, List.setIfInBounds_toArray, List.set_cons_zero, List.set_cons_succ, i64_w, i32_w]
    rfl
   refine pure_ (i := 10) (N := some 59) (v := ?_) (a' := ?_) (tf 11 48) rfl rfl (any_of HT_.out (by kernel_rfl)) (fun _ _ _ h => h) (Or.inl ⟨by rfl, ?_⟩) ?_ ?_
   rotate_left
   ·intro w'
    go_simp
    with_reducible rfl
   rotate_left
   ·simp only [Act.put, List.setIfInBounds_toArray, List.set_cons_zero, List.set_cons_succ, i64_w, i32_w]
    rfl
   refine take_ (i := 11) (N := some 60) (v := ?_) (a' := ?_) (tf 12 47) rfl rfl (take_ofW HT_.out HW_.out (by kernel_rfl)) (fun _ _ _ h => h) (Or.inl ⟨by rfl, ?_⟩) hHeld ?_ ?_
   rotate_left
   ·intro w' s0
    obtain ⟨x0, _⟩ := bk1 (blk_below G9.out s0)
    go_simp
    with_reducible rfl
   rotate_left
   ·simp only [Act.put, List.setIfInBounds_toArray, List.set_cons_zero, List.set_cons_succ, i64_w, i32_w]
    rfl
   refine take_ (i := 12) (N := some 61) (v := ?_) (a' := ?_) (tf 13 46) rfl rfl (take_ofW HT_.out HW_.out (by kernel_rfl)) (fun _ _ _ h => h) (Or.inl ⟨by rfl, ?_⟩) hHeld ?_ ?_
   rotate_left
   ·intro w' s0
    obtain ⟨x0, _⟩ := bk1 (blk_below G12.out s0)
    go_simp
    with_reducible rfl
   rotate_left
   ·simp only [Act.put, List.setIfInBounds_toArray, List.set_cons_zero, List.set_cons_succ, i64_w, i32_w]
    rfl
   refine one_ (i := 13) (N := some 62) (tf 14 45) rfl rfl (one_of HT_.out (by kernel_rfl)) (by decide) (fun K hK => ?_)
   refine goes_ Tryd.func23 (by kernel_rfl) rfl #[.agg #[.map (some bx)], .agg #[.map (some bp)]] (by rfl) rfl rfl (by simp only [List.map_toArray, List.map_cons, List.map_nil]; rfl) ?_
   refine (within_p true (some bx) (some bp) X P _ (HSX.out.below hHeld) (HSP.out.below hHeld) HXP.out).mono ?_
   rintro e w913 ⟨rfl, hb⟩
   refine ⟨_, rfl, ?_⟩
   refine hK.out _ _ (below_step hHeld hb) (fun hHeld => ?_)
   clear hK K
   refine norm_ (a' := ?_) ?_ ?_
   rotate_left
   ·show Act.put _ (some 62) _ = _
    simp only [Act.put, List.setIfInBounds_toArray, List.set_cons_zero, List.set_cons_succ, i64_w, i32_w]
    rfl
   refine pure_ (i := 14) (N := some 63) (v := ?_) (a' := ?_) (tf 15 44) rfl rfl (any_of HT_.out (by kernel_rfl)) (fun _ _ _ h => h) (Or.inl ⟨by rfl, ?_⟩) ?_ ?_
   rotate_left
   ·intro w'
    go_simp
    with_reducible rfl
   rotate_left
   ·simp only [Act.put, List.setIfInBounds_toArray, List.set_cons_zero, List.set_cons_succ, i64_w, i32_w]
    rfl
   refine pure_ (i := 15) (N := some 64) (v := ?_) (a' := ?_) (tf 16 43) rfl rfl (any_of HT_.out (by kernel_rfl)) (fun _ _ _ h => h) (Or.inl ⟨by rfl, ?_⟩) ?_ ?_
   rotate_left
   ·intro w'
    go_simp
    with_reducible rfl
   rotate_left
   ·simp only [Act.put, List.setIfInBounds_toArray, List.set_cons_zero, List.set_cons_succ, i64_w, i32_w]
    rfl
   refine pure_ (i := 16) (N := some 65) (v := ?_) (a' := ?_) (tf 17 42) rfl rfl (any_of HT_.out (by kernel_rfl)) (fun _ _ _ h => h) (Or.inl ⟨by rfl, ?_⟩) ?_ ?_
   rotate_left
   ·intro w'
    go_simp
    with_reducible rfl
   rotate_left
   ·simp only [Act.put, List.setIfInBounds_toArray, List.set_cons_zero, List.set_cons_succ, i64_w, i32_w]
    rfl
   refine take_ (i := 17) (N := some 66) (v := ?_) (a' := ?_) (tf 18 41) rfl rfl (take_ofW HT_.out HW_.out (by kernel_rfl)) (fun _ _ _ h => h) (Or.inl ⟨by rfl, ?_⟩) hHeld ?_ ?_
   rotate_left
   ·intro w' s0
    obtain ⟨x0, _⟩ := bk1 (blk_below G12.out s0)
    go_simp
    with_reducible rfl
   rotate_left
   ·simp only [Act.put, List.setIfInBounds_toArray, List.set_cons_zero, List.set_cons_succ, i64_w, i32_w]
    rfl
   refine take_ (i := 19) (N := some 68) (v := ?_) (a' := ?_) #[true, true, true, true, true, true, true, true, true, true, true, true, true, true, true, true, true, true, false, true, false, false, false, false, false, false, false, false, false, false, false, false, false, false, false, false, false, false, false, false, false, false, false, false, false, false, false, false, false, false, false, false, false, false, false, false, false, false, false] rfl rfl (take_ofW HT_.out HW_.out (by kernel_rfl)) (fun _ _ _ h => h) (Or.inl ⟨by rfl, ?_⟩) hHeld ?_ ?_
   rotate_left
   ·intro w' s0
    obtain ⟨x0, _⟩ := bk1 (blk_below G13.out s0)
    go_simp
    with_reducible rfl
   rotate_left
   ·simp only [Act.put, List.setIfInBounds_toArray, List.set_cons_zero, List.set_cons_succ, i64_w, i32_w]
    rfl
   refine one_ (i := 18) (N := some 67) (tf 20 39) rfl rfl (one_of HT_.out (by kernel_rfl)) (by decide) (fun K hK => ?_)
   refine goes_ Tryd.func26 (by kernel_rfl) rfl #[.agg #[.map (some bp)]] (by rfl) rfl rfl (by simp only [List.map_toArray, List.map_cons, List.map_nil]; rfl) ?_
   refine (set_Len (some bp) P _ (HSP.out.below hHeld)).mono ?_
   rintro e w918 ⟨rfl, hb⟩
   refine ⟨_, rfl, ?_⟩
   refine hK.out _ _ (below_step hHeld hb) (fun hHeld => ?_)
   clear hK K
   refine norm_ (a' := ?_) ?_ ?_
   rotate_left
   ·show Act.put _ (some 67) _ = _
    simp only [Act.put, List.setIfInBounds_toArray, List.set_cons_zero, List.set_cons_succ, i64_w, i32_w]
    rfl
   refine one_ (i := 20) (N := some 69) (tf 21 38) rfl rfl (one_of HT_.out (by kernel_rfl)) (by decide) (fun K hK => ?_)
   refine goes_ Tryd.func26 (by kernel_rfl) rfl #[.agg #[.map (some bq)]] (by rfl) rfl rfl (by simp only [List.map_toArray, List.map_cons, List.map_nil]; rfl) ?_
   refine (set_Len (some bq) P _ (HSQ.out.below hHeld)).mono ?_
   rintro e w920 ⟨rfl, hb⟩
   refine ⟨_, rfl, ?_⟩
   refine hK.out _ _ (below_step hHeld hb) (fun hHeld => ?_)
   clear hK K
   refine norm_ (a' := ?_) ?_ ?_
   rotate_left
   ·show Act.put _ (some 69) _ = _
    simp only [Act.put, List.setIfInBounds_toArray, List.set_cons_zero, List.set_cons_succ, i64_w, i32_w]
    rfl
   refine pure_ (i := 21) (N := some 70) (v := ?_) (a' := ?_) (tf 22 37) rfl rfl (any_of HT_.out (by kernel_rfl)) (fun _ _ _ h => h) (Or.inl ⟨by rfl, ?_⟩) ?_ ?_
   rotate_left
   ·intro w'
    go_simp
    with_reducible rfl
   rotate_left
   ·simp only [Act.put, List.setIfInBounds_toArray, List.set_cons_zero, List.set_cons_succ, i64_w, i32_w]
    rfl
   refine pure_ (i := 22) (N := some 71) (v := ?_) (a' := ?_) (tf 23 36) rfl rfl (any_of HT_.out (by kernel_rfl)) (fun _ _ _ h => h) (Or.inl ⟨by rfl, ?_⟩) ?_ ?_
   rotate_left
   ·intro w'
    go_simp
    with_reducible rfl
   rotate_left
   ·simp only [Act.put, List.setIfInBounds_toArray, List.set_cons_zero, List.set_cons_succ, i64_w, i32_w]
    rfl
   refine pure_ (i := 23) (N := some 72) (v := ?_) (a' := ?_) (tf 24 35) rfl rfl (any_of HT_.out (by kernel_rfl)) (fun _ _ _ h => h) (Or.inl ⟨by rfl, ?_⟩) ?_ ?_
   rotate_left
   ·intro w'
    go_simp
    with_reducible rfl
   rotate_left
   ·simp only [Act.put, List.setIfInBounds_toArray, List.set_cons_zero, List.set_cons_succ, i64_w, i32_w]
    rfl
   refine take_ (i := 24) (N := some 73) (v := ?_) (a' := ?_) (tf 25 34) rfl rfl (take_ofW HT_.out HW_.out (by kernel_rfl)) (fun _ _ _ h => h) (Or.inl ⟨by rfl, ?_⟩) hHeld ?_ ?_
   rotate_left
   ·intro w' s0
    obtain ⟨x0, _⟩ := bk1 (blk_below G12.out s0)
    go_simp
    with_reducible rfl
   rotate_left
   ·simp only [Act.put, List.setIfInBounds_toArray, List.set_cons_zero, List.set_cons_succ, i64_w, i32_w]
    rfl
   refine take_ (i := 25) (N := some 74) (v := ?_) (a' := ?_) (tf 26 33) rfl rfl (take_ofW HT_.out HW_.out (by kernel_rfl)) (fun _ _ _ h => h) (Or.inl ⟨by rfl, ?_⟩) hHeld ?_ ?_
   rotate_left
   ·intro w' s0
    obtain ⟨x0, x1, x2, _⟩ := bk3 (blk_below H7.out s0)
    go_simp
    with_reducible rfl
   rotate_left
   ·simp only [Act.put, List.setIfInBounds_toArray, List.set_cons_zero, List.set_cons_succ, i64_w, i32_w]
    rfl
   refine take_ (i := 27) (N := some 76) (v := ?_) (a' := ?_) #[true, true, true, true, true, true, true, true, true, true, true, true, true, true, true, true, true, true, true, true, true, true, true, true, true, true, false, true, false, false, false, false, false, false, false, false, false, false, false, false, false, false, false, false, false, false, false, false, false, false, false, false, false, false, false, false, false, false, false] rfl rfl (take_ofW HT_.out HW_.out (by kernel_rfl)) (fun _ _ _ h => h) (Or.inl ⟨by rfl, ?_⟩) hHeld ?_ ?_
   rotate_left
   ·intro w' s0
    obtain ⟨x0, _⟩ := bk1 (blk_below G9.out s0)
    go_simp
    with_reducible rfl
   rotate_left
   ·simp only [Act.put, List.setIfInBounds_toArray, List.set_cons_zero, List.set_cons_succ, i64_w, i32_w]
    rfl
   refine take_ (i := 28) (N := some 77) (v := ?_) (a' := ?_) #[true, true, true, true, true, true, true, true, true, true, true, true, true, true, true, true, true, true, true, true, true, true, true, true, true, true, false, true, true, false, false, false, false, false, false, false, false, false, false, false, false, false, false, false, false, false, false, false, false, false, false, false, false, false, false, false, false, false, false] rfl rfl (take_ofW HT_.out HW_.out (by kernel_rfl)) (fun _ _ _ h => h) (Or.inl ⟨by rfl, ?_⟩) hHeld ?_ ?_
   rotate_left
   ·intro w' s0
    obtain ⟨x0, x1, x2, _⟩ := bk3 (blk_below H7.out s0)
    go_simp
    with_reducible rfl
   rotate_left
   ·simp only [Act.put, List.setIfInBounds_toArray, List.set_cons_zero, List.set_cons_succ, i64_w, i32_w]
    rfl
   refine one_ (i := 26) (N := some 75) (tf 29 30) rfl rfl (one_of HT_.out (by kernel_rfl)) (by decide) (fun K hK => ?_)
   refine goes_ Tryd.func25 (by kernel_rfl) rfl #[.agg #[.map (some bp)], .agg #[.int .i64 n0, .int .i64 n1, .string n2]] (by rfl) rfl rfl (by simp only [List.map_toArray, List.map_cons, List.map_nil]; rfl) ?_
   refine (has_q q (some bp) P ⟨n0, n1, n2⟩ _ (HSP.out.below hHeld) HWN.out HNP.out).mono ?_
   rintro e w926 ⟨rfl, hb⟩
   refine ⟨_, rfl, ?_⟩
   refine hK.out _ _ (below_step hHeld hb) (fun hHeld => ?_)
   clear hK K
   refine norm_ (a' := ?_) ?_ ?_
   rotate_left
   ·show Act.put _ (some 75) _ = _
    simp only [Act.put, List.setIfInBounds_toArray, List.set_cons_zero, List.set_cons_succ, i64_w, i32_w]
    rfl
   refine one_ (i := 29) (N := some 78) (tf 30 29) rfl rfl (one_of HT_.out (by kernel_rfl)) (by decide) (fun K hK => ?_)
   refine goes_ Tryd.func25 (by kernel_rfl) rfl #[.agg #[.map (some bx)], .agg #[.int .i64 n0, .int .i64 n1, .string n2]] (by rfl) rfl rfl (by simp only [List.map_toArray, List.map_cons, List.map_nil]; rfl) ?_
   refine (has_q false (some bx) X ⟨n0, n1, n2⟩ _ (HSX.out.below hHeld) HWN.out HNX.out).mono ?_
   rintro e w929 ⟨rfl, hb⟩
   refine ⟨_, rfl, ?_⟩
   refine hK.out _ _ (below_step hHeld hb) (fun hHeld => ?_)
   clear hK K
   refine norm_ (a' := ?_) ?_ ?_
   rotate_left
   ·show Act.put _ (some 78) _ = _
    simp only [Act.put, List.setIfInBounds_toArray, List.set_cons_zero, List.set_cons_succ, i64_w, i32_w]
    rfl
   refine pure_ (i := 30) (N := some 79) (v := ?_) (a' := ?_) (tf 31 28) rfl rfl (any_of HT_.out (by kernel_rfl)) (fun _ _ _ h => h) (Or.inl ⟨by rfl, ?_⟩) ?_ ?_
   rotate_left
   ·intro w'
    go_simp
    with_reducible rfl
   rotate_left
   ·simp only [Act.put, List.setIfInBounds_toArray, List.set_cons_zero, List.set_cons_succ, i64_w, i32_w]
    rfl
   refine take_ (i := 31) (N := some 80) (v := ?_) (a' := ?_) (tf 32 27) rfl rfl (take_ofW HT_.out HW_.out (by kernel_rfl)) (fun _ _ _ h => h) (Or.inl ⟨by rfl, ?_⟩) hHeld ?_ ?_
   rotate_left
   ·intro w' s0
    obtain ⟨x0, _⟩ := bk1 (blk_below G10.out s0)
    go_simp
    with_reducible rfl
   rotate_left
   ·simp only [Act.put, List.setIfInBounds_toArray, List.set_cons_zero, List.set_cons_succ, i64_w, i32_w]
    rfl
   refine take_ (i := 32) (N := some 81) (v := ?_) (a' := ?_) (tf 33 26) rfl rfl (take_ofW HT_.out HW_.out (by kernel_rfl)) (fun _ _ _ h => h) (Or.inl ⟨by rfl, ?_⟩) hHeld ?_ ?_
   rotate_left
   ·intro w' s0
    obtain ⟨x0, x1, x2, _⟩ := bk3 (blk_below H7.out s0)
    go_simp
    with_reducible rfl
   rotate_left
   ·simp only [Act.put, List.setIfInBounds_toArray, List.set_cons_zero, List.set_cons_succ, i64_w, i32_w]
    rfl
   refine one_ (i := 33) (N := some 82) (tf 34 25) rfl rfl (one_of HT_.out (by kernel_rfl)) (by decide) (fun K hK => ?_)
   refine goes_ Tryd.func25 (by kernel_rfl) rfl #[.agg #[.map (some by_)], .agg #[.int .i64 n0, .int .i64 n1, .string n2]] (by rfl) rfl rfl (by simp only [List.map_toArray, List.map_cons, List.map_nil]; rfl) ?_
   refine (has_q false (some by_) Y ⟨n0, n1, n2⟩ _ (HSY.out.below hHeld) HWN.out HNY.out).mono ?_
   rintro e w933 ⟨rfl, hb⟩
   refine ⟨_, rfl, ?_⟩
   refine hK.out _ _ (below_step hHeld hb) (fun hHeld => ?_)
   clear hK K
   refine norm_ (a' := ?_) ?_ ?_
   rotate_left
   ·show Act.put _ (some 82) _ = _
    simp only [Act.put, List.setIfInBounds_toArray, List.set_cons_zero, List.set_cons_succ, i64_w, i32_w]
    rfl
   refine pure_ (i := 34) (N := some 83) (v := ?_) (a' := ?_) (tf 35 24) rfl rfl (any_of HT_.out (by kernel_rfl)) (fun _ _ _ h => h) (Or.inl ⟨by rfl, ?_⟩) ?_ ?_
   rotate_left
   ·intro w'
    go_simp
    with_reducible rfl
   rotate_left
   ·simp only [Act.put, List.setIfInBounds_toArray, List.set_cons_zero, List.set_cons_succ, i64_w, i32_w]
    rfl
   refine pure_ (i := 35) (N := some 84) (v := ?_) (a' := ?_) (tf 36 23) rfl rfl (any_of HT_.out (by kernel_rfl)) (fun _ _ _ h => h) (Or.inl ⟨by rfl, ?_⟩) ?_ ?_
   rotate_left
   ·intro w'
    go_simp
    with_reducible rfl
   rotate_left
   ·simp only [Act.put, List.setIfInBounds_toArray, List.set_cons_zero, List.set_cons_succ, i64_w, i32_w]
    rfl
   refine take_ (i := 36) (N := some 85) (v := ?_) (a' := ?_) (tf 37 22) rfl rfl (take_ofW HT_.out HW_.out (by kernel_rfl)) (fun _ _ _ h => h) (Or.inl ⟨by rfl, ?_⟩) hHeld ?_ ?_
   rotate_left
   ·intro w' s0
    obtain ⟨x0, _⟩ := bk1 (blk_below G11.out s0)
    go_simp
    with_reducible rfl
   rotate_left
   ·simp only [Act.put, List.setIfInBounds_toArray, List.set_cons_zero, List.set_cons_succ, i64_w, i32_w]
    rfl
   refine take_ (i := 37) (N := some 86) (v := ?_) (a' := ?_) (tf 38 21) rfl rfl (take_ofW HT_.out HW_.out (by kernel_rfl)) (fun _ _ _ h => h) (Or.inl ⟨by rfl, ?_⟩) hHeld ?_ ?_
   rotate_left
   ·intro w' s0
    obtain ⟨x0, x1, x2, _⟩ := bk3 (blk_below H7.out s0)
    go_simp
    with_reducible rfl
   rotate_left
   ·simp only [Act.put, List.setIfInBounds_toArray, List.set_cons_zero, List.set_cons_succ, i64_w, i32_w]
    rfl
   refine one_ (i := 38) (N := some 87) (tf 39 20) rfl rfl (one_of HT_.out (by kernel_rfl)) (by decide) (fun K hK => ?_)
   refine goes_ Tryd.func25 (by kernel_rfl) rfl #[.agg #[.map (some bz)], .agg #[.int .i64 n0, .int .i64 n1, .string n2]] (by rfl) rfl rfl (by simp only [List.map_toArray, List.map_cons, List.map_nil]; rfl) ?_
   refine (has_q q (some bz) Z ⟨n0, n1, n2⟩ _ (HSZ.out.below hHeld) HWN.out HNZ.out).mono ?_
   rintro e w938 ⟨rfl, hb⟩
   refine ⟨_, rfl, ?_⟩
   refine hK.out _ _ (below_step hHeld hb) (fun hHeld => ?_)
   clear hK K
   refine norm_ (a' := ?_) ?_ ?_
   rotate_left
   ·show Act.put _ (some 87) _ = _
    simp only [Act.put, List.setIfInBounds_toArray, List.set_cons_zero, List.set_cons_succ, i64_w, i32_w]
    rfl
   refine pure_ (i := 39) (N := some 88) (v := ?_) (a' := ?_) (tf 40 19) rfl rfl (any_of HT_.out (by kernel_rfl)) (fun _ _ _ h => h) (Or.inl ⟨by rfl, ?_⟩) ?_ ?_
   rotate_left
   ·intro w'
    go_simp
    with_reducible rfl
   rotate_left
   ·simp only [Act.put, List.setIfInBounds_toArray, List.set_cons_zero, List.set_cons_succ, i64_w, i32_w]
    rfl
   refine pure_ (i := 40) (N := some 89) (v := ?_) (a' := ?_) (tf 41 18) rfl rfl (any_of HT_.out (by kernel_rfl)) (fun _ _ _ h => h) (Or.inl ⟨by rfl, ?_⟩) ?_ ?_
   rotate_left
   ·intro w'
    go_simp
    with_reducible rfl
   rotate_left
   ·simp only [Act.put, List.setIfInBounds_toArray, List.set_cons_zero, List.set_cons_succ, i64_w, i32_w]
    rfl
   refine pure_ (i := 41) (N := some 90) (v := ?_) (a' := ?_) (tf 42 17) rfl rfl (any_of HT_.out (by kernel_rfl)) (fun _ _ _ h => h) (Or.inl ⟨by rfl, ?_⟩) ?_ ?_
   rotate_left
   ·intro w'
    go_simp
    with_reducible rfl
   rotate_left
   ·simp only [Act.put, List.setIfInBounds_toArray, List.set_cons_zero, List.set_cons_succ, i64_w, i32_w]
    rfl
   refine pure_ (i := 42) (N := some 91) (v := ?_) (a' := ?_) (tf 43 16) rfl rfl (any_of HT_.out (by kernel_rfl)) (fun _ _ _ h => h) (Or.inl ⟨by rfl, ?_⟩) ?_ ?_
   rotate_left
   ·intro w'
    go_simp
    with_reducible rfl
   rotate_left
   ·simp only [Act.put, List.setIfInBounds_toArray, List.set_cons_zero, List.set_cons_succ, i64_w, i32_w]
    rfl
   refine take_ (i := 43) (N := some 92) (v := ?_) (a' := ?_) (tf 44 15) rfl rfl (take_ofW HT_.out HW_.out (by kernel_rfl)) (fun _ _ _ h => h) (Or.inl ⟨by rfl, ?_⟩) hHeld ?_ ?_
   rotate_left
   ·intro w' s0
    obtain ⟨x0, _⟩ := bk1 (blk_below G12.out s0)
    go_simp
    with_reducible rfl
   rotate_left
   ·simp only [Act.put, List.setIfInBounds_toArray, List.set_cons_zero, List.set_cons_succ, i64_w, i32_w]
    rfl
   refine take_ (i := 44) (N := some 93) (v := ?_) (a' := ?_) (tf 45 14) rfl rfl (take_ofW HT_.out HW_.out (by kernel_rfl)) (fun _ _ _ h => h) (Or.inl ⟨by rfl, ?_⟩) hHeld ?_ ?_
   rotate_left
   ·intro w' s0
    obtain ⟨x0, _⟩ := bk1 (blk_below G9.out s0)
    go_simp
    with_reducible rfl
   rotate_left
   ·simp only [Act.put, List.setIfInBounds_toArray, List.set_cons_zero, List.set_cons_succ, i64_w, i32_w]
    rfl
   refine take_ (i := 47) (N := some 96) (v := ?_) (a' := ?_) #[true, true, true, true, true, true, true, true, true, true, true, true, true, true, true, true, true, true, true, true, true, true, true, true, true, true, true, true, true, true, true, true, true, true, true, true, true, true, true, true, true, true, true, true, true, false, false, true, false, false, false, false, false, false, false, false, false, false, false] rfl rfl (take_ofW HT_.out HW_.out (by kernel_rfl)) (fun _ _ _ h => h) (Or.inl ⟨by rfl, ?_⟩) hHeld ?_ ?_
   rotate_left
   ·intro w' s0
    obtain ⟨x0, _⟩ := bk1 (blk_below G12.out s0)
    go_simp
    with_reducible rfl
   rotate_left
   ·simp only [Act.put, List.setIfInBounds_toArray, List.set_cons_zero, List.set_cons_succ, i64_w, i32_w]
    rfl
   refine one_ (i := 45) (N := some 94) #[true, true, true, true, true, true, true, true, true, true, true, true, true, true, true, true, true, true, true, true, true, true, true, true, true, true, true, true, true, true, true, true, true, true, true, true, true, true, true, true, true, true, true, true, true, true, false, true, false, false, false, false, false, false, false, false, false, false, false] rfl rfl (one_of HT_.out (by kernel_rfl)) (by decide) (fun K hK => ?_)
   refine goes_ Tryd.func21 (by kernel_rfl) rfl #[.agg #[.map (some bp)], .agg #[.map (some bx)]] (by rfl) rfl rfl (by simp only [List.map_toArray, List.map_cons, List.map_nil]; rfl) ?_
   refine (set_Join (some bp) (some bx) P X _ (HSP.out.below hHeld) (HSX.out.below hHeld) (by have := HLX.out; have := HLP.out; omega)).mono ?_
   rintro e w945 ⟨b45, rfl, _, hs45, hb⟩
   refine ⟨_, rfl, ?_⟩
   rw [HPX.out] at hs45
   have HS45 := Aside0.mk hs45
   clear hs45
   refine hK.out _ _ (below_step hHeld hb) (fun hHeld => ?_)
   clear hK K
   refine norm_ (a' := ?_) ?_ ?_
   rotate_left
   ·show Act.put _ (some 94) _ = _
    simp only [Act.put, List.setIfInBounds_toArray, List.set_cons_zero, List.set_cons_succ, i64_w, i32_w]
    rfl
   refine one_ (i := 46) (N := some 95) (tf 48 11) rfl rfl (one_of HT_.out (by kernel_rfl)) (by decide) (fun K hK => ?_)
   refine goes_ Tryd.func26 (by kernel_rfl) rfl #[.agg #[.map (some b45)]] (by rfl) rfl rfl (by simp only [List.map_toArray, List.map_cons, List.map_nil]; rfl) ?_
   refine (set_Len (some b45) P _ HS45.out).mono ?_
   rintro e w946 ⟨rfl, hb⟩
   refine ⟨_, rfl, ?_⟩
   refine hK.out _ _ (below_step hHeld hb) (fun hHeld => ?_)
   clear hK K
   refine norm_ (a' := ?_) ?_ ?_
   rotate_left
   ·show Act.put _ (some 95) _ = _
    simp only [Act.put, List.setIfInBounds_toArray, List.set_cons_zero, List.set_cons_succ, i64_w, i32_w]
    rfl
   refine one_ (i := 48) (N := some 97) (tf 49 10) rfl rfl (one_of HT_.out (by kernel_rfl)) (by decide) (fun K hK => ?_)
   refine goes_ Tryd.func26 (by kernel_rfl) rfl #[.agg #[.map (some bp)]] (by rfl) rfl rfl (by simp only [List.map_toArray, List.map_cons, List.map_nil]; rfl) ?_
   refine (set_Len (some bp) P _ (HSP.out.below hHeld)).mono ?_
   rintro e w948 ⟨rfl, hb⟩
   refine ⟨_, rfl, ?_⟩
   refine hK.out _ _ (below_step hHeld hb) (fun hHeld => ?_)
   clear hK K
   refine norm_ (a' := ?_) ?_ ?_
   rotate_left
   ·show Act.put _ (some 97) _ = _
    simp only [Act.put, List.setIfInBounds_toArray, List.set_cons_zero, List.set_cons_succ, i64_w, i32_w]
    rfl
   refine pure_ (i := 49) (N := some 98) (v := ?_) (a' := ?_) (tf 50 9) rfl rfl (any_of HT_.out (by kernel_rfl)) (fun _ _ _ h => h) (Or.inl ⟨by rfl, ?_⟩) ?_ ?_
   rotate_left
   ·intro w'
    go_simp
    with_reducible rfl
   rotate_left
   ·simp only [Act.put, List.setIfInBounds_toArray, List.set_cons_zero, List.set_cons_succ, i64_w, i32_w]
    rfl
   refine pure_ (i := 50) (N := some 99) (v := ?_) (a' := ?_) (tf 51 8) rfl rfl (any_of HT_.out (by kernel_rfl)) (fun _ _ _ h => h) (Or.inl ⟨by rfl, ?_⟩) ?_ ?_
   rotate_left
   ·intro w'
    go_simp
    with_reducible rfl
   rotate_left
   ·simp only [Act.put, List.setIfInBounds_toArray, List.set_cons_zero, List.set_cons_succ, i64_w, i32_w]
    rfl
   refine pure_ (i := 51) (N := some 100) (v := ?_) (a' := ?_) (tf 52 7) rfl rfl (any_of HT_.out (by kernel_rfl)) (fun _ _ _ h => h) (Or.inl ⟨by rfl, ?_⟩) ?_ ?_
   rotate_left
   ·intro w'
    go_simp
    with_reducible rfl
   rotate_left
   ·simp only [Act.put, List.setIfInBounds_toArray, List.set_cons_zero, List.set_cons_succ, i64_w, i32_w]
    rfl
   refine take_ (i := 52) (N := some 101) (v := ?_) (a' := ?_) (tf 53 6) rfl rfl (take_ofW HT_.out HW_.out (by kernel_rfl)) (fun _ _ _ h => h) (Or.inl ⟨by rfl, ?_⟩) hHeld ?_ ?_
   rotate_left
   ·intro w' s0
    obtain ⟨x0, _⟩ := bk1 (blk_below G9.out s0)
    go_simp
    with_reducible rfl
   rotate_left
   ·simp only [Act.put, List.setIfInBounds_toArray, List.set_cons_zero, List.set_cons_succ, i64_w, i32_w]
    rfl
   refine take_ (i := 53) (N := some 102) (v := ?_) (a' := ?_) (tf 54 5) rfl rfl (take_ofW HT_.out HW_.out (by kernel_rfl)) (fun _ _ _ h => h) (Or.inl ⟨by rfl, ?_⟩) hHeld ?_ ?_
   rotate_left
   ·intro w' s0
    obtain ⟨x0, x1, x2, _⟩ := bk3 (blk_below H7.out s0)
    go_simp
    with_reducible rfl
   rotate_left
   ·simp only [Act.put, List.setIfInBounds_toArray, List.set_cons_zero, List.set_cons_succ, i64_w, i32_w]
    rfl
   refine take_ (i := 55) (N := some 104) (v := ?_) (a' := ?_) #[true, true, true, true, true, true, true, true, true, true, true, true, true, true, true, true, true, true, true, true, true, true, true, true, true, true, true, true, true, true, true, true, true, true, true, true, true, true, true, true, true, true, true, true, true, true, true, true, true, true, true, true, true, true, false, true, false, false, false] rfl rfl (take_ofW HT_.out HW_.out (by kernel_rfl)) (fun _ _ _ h => h) (Or.inl ⟨by rfl, ?_⟩) hHeld ?_ ?_
   rotate_left
   ·intro w' s0
    obtain ⟨x0, x1, x2, _⟩ := bk3 (blk_below H7.out s0)
    go_simp
    with_reducible rfl
   rotate_left
   ·simp only [Act.put, List.setIfInBounds_toArray, List.set_cons_zero, List.set_cons_succ, i64_w, i32_w]
    rfl
   refine one_ (i := 54) (N := some 103) (tf 56 3) rfl rfl (one_of HT_.out (by kernel_rfl)) (by decide) (fun K hK => ?_)
   refine goes_ Tryd.func22 (by kernel_rfl) rfl #[.agg #[.map (some bx)], .agg #[.int .i64 n0, .int .i64 n1, .string n2]] (by rfl) rfl rfl (by simp only [List.map_toArray, List.map_cons, List.map_nil]; rfl) ?_
   refine (set_With (some bx) X ⟨n0, n1, n2⟩ _ (HSX.out.below hHeld) HWN.out (by have := HLX.out; omega)).mono ?_
   rintro e w954 ⟨b54, rfl, _, hs54, hb⟩
   refine ⟨_, rfl, ?_⟩
   have HS54 := Aside0.mk hs54
   clear hs54
   refine hK.out _ _ (below_step hHeld hb) (fun hHeld => ?_)
   clear hK K
   refine norm_ (a' := ?_) ?_ ?_
   rotate_left
   ·show Act.put _ (some 103) _ = _
    simp only [Act.put, List.setIfInBounds_toArray, List.set_cons_zero, List.set_cons_succ, i64_w, i32_w]
    rfl
   refine one_ (i := 56) (N := some 105) (tf 57 2) rfl rfl (one_of HT_.out (by kernel_rfl)) (by decide) (fun K hK => ?_)
   refine goes_ Tryd.func25 (by kernel_rfl) rfl #[.agg #[.map (some b54)], .agg #[.int .i64 n0, .int .i64 n1, .string n2]] (by rfl) rfl rfl (by simp only [List.map_toArray, List.map_cons, List.map_nil]; rfl) ?_
   refine (has_q true (some b54) (addR X ⟨n0, n1, n2⟩) ⟨n0, n1, n2⟩ _ HS54.out HWN.out HXN.out).mono ?_
   rintro e w956 ⟨rfl, hb⟩
   refine ⟨_, rfl, ?_⟩
   refine hK.out _ _ (below_step hHeld hb) (fun hHeld => ?_)
   clear hK K
   refine norm_ (a' := ?_) ?_ ?_
   rotate_left
   ·show Act.put _ (some 105) _ = _
    simp only [Act.put, List.setIfInBounds_toArray, List.set_cons_zero, List.set_cons_succ, i64_w, i32_w]
    rfl
   refine pure_ (i := 57) (N := some 106) (v := ?_) (a' := ?_) (tf 58 1) rfl rfl (any_of HT_.out (by kernel_rfl)) (fun _ _ _ h => h) (Or.inl ⟨by rfl, ?_⟩) ?_ ?_
   rotate_left
   ·intro w'
    go_simp
    with_reducible rfl
   rotate_left
   ·simp only [Act.put, List.setIfInBounds_toArray, List.set_cons_zero, List.set_cons_succ, i64_w, i32_w]
    rfl
   refine pure_ (i := 58) (N := some 107) (v := ?_) (a' := ?_) (tf 59 0) rfl rfl (any_of HT_.out (by kernel_rfl)) (fun _ _ _ h => h) (Or.inl ⟨by rfl, ?_⟩) ?_ ?_
   rotate_left
   ·intro w'
    go_simp
    with_reducible rfl
   rotate_left
   ·simp only [Act.put, List.setIfInBounds_toArray, List.set_cons_zero, List.set_cons_succ, i64_w, i32_w]
    rfl
   refine done_ (done_of HT_.out (by kernel_rfl)) ?_
   have hp1 := bk1 (blk_below G12.out hHeld)
   go_wp2_with fail
   clear hp1
   refine (set_List (some bp) P _ (HSP.out.below hHeld) (by have := HLP.out; omega)).mono ?_
   rintro e wl ⟨vl, rfl, hrl, hb⟩
   obtain ⟨Al, cl, el⟩ := Kd.R_slice hrl
   subst el
   have HL := Aside0.mk (Kd.R_reads' hrl).2.2
   have HBL := Aside0.mk (below_step HB.out (below_step hHeld hb))
   clear hrl hb hHeld HT_ HW_ HSX HSY HSZ HSP HSQ G9 G10 G11 G12 G13 H7 HB
   have hpl : P.length ≤ 1000 := by have := HLP.out; omega
   go_upto_region 14 with (fail)
   go_loopw [15] (fun v15 wr => ∃ (i : Nat), v15 = .int .i64 i ∧ i ≤ P.length ∧ Aside0 (Below wl.heap.size wl wr)) (fun v15 _ => P.length - (intOf v15).toNat)
   case atStart => exact ⟨0, rfl, Nat.zero_le _, ⟨Below.refl _ _⟩⟩
   case round =>
    obtain ⟨i, rfl, hi, HW⟩ := hrel
    by_cases hlt : i < P.length
    ·go_upto_region 17 with (fail)
     go_loopw [16] (fun v16 wq => ∃ (k : Nat), v16 = .int .i64 k ∧ k ≤ P.length ∧ Aside0 (Below wl.heap.size wl wq)) (fun v16 _ => P.length - (intOf v16).toNat)
     case atStart => exact ⟨0, rfl, Nat.zero_le _, HW⟩
     case round =>
      clear HW
      obtain ⟨k, rfl, hk, HW⟩ := hrel
      by_cases hlk : k < P.length
      ·obtain ⟨x, ex⟩ : ∃ x, x = P[i] := ⟨_, rfl⟩
       obtain ⟨y, ey⟩ : ∃ y, y = P[k] := ⟨_, rfl⟩
       obtain ⟨adx, e, _⟩ := at_T24 HL.out (i : Int) (by omega) (by omega)
       subst e
       have hrx : rd_T24 P (i : Int) = x := by rw [ex]; unfold rd_T24; rw [Int.toNat_natCast]; simp [hlt]
       have hry : rd_T24 P (k : Int) = y := by rw [ey]; unfold rd_T24; rw [Int.toNat_natCast]; simp [hlk]
       have HCX : Aside0 (∀ w', Below wl.heap.size wl w' → w'.cell? (adx.add (i * 3)) = some (.int .i64 x.f0) ∧ w'.cell? ⟨(adx.add (i * 3)).block, (adx.add (i * 3)).off + 1, none⟩ = some (.int .i64 x.f1) ∧ w'.cell? ⟨(adx.add (i * 3)).block, (adx.add (i * 3)).off + 2, none⟩ = some (.string x.f2)) := ⟨fun w' hb => by
        obtain ⟨ad, e, h0, h1, h2⟩ := at_T24 (Kd.C_below HL.out hb) (i : Int) (by omega) (by omega)
        cases e
        rw [hrx] at h0 h1 h2
        exact ⟨h0, h1, h2⟩⟩
       have HCY : Aside0 (∀ w', Below wl.heap.size wl w' → w'.cell? (adx.add (k * 3)) = some (.int .i64 y.f0) ∧ w'.cell? ⟨(adx.add (k * 3)).block, (adx.add (k * 3)).off + 1, none⟩ = some (.int .i64 y.f1) ∧ w'.cell? ⟨(adx.add (k * 3)).block, (adx.add (k * 3)).off + 2, none⟩ = some (.string y.f2)) := ⟨fun w' hb => by
        obtain ⟨ad, e, h0, h1, h2⟩ := at_T24 (Kd.C_below HL.out hb) (k : Int) (by omega) (by omega)
        cases e
        rw [hry] at h0 h1 h2
        exact ⟨h0, h1, h2⟩⟩
       obtain ⟨e1, e2, e3⟩ := cmp_at HUP.out hlt hlk
       rw [← ex, ← ey] at e1 e2 e3
       obtain ⟨d, hd⟩ : ∃ d, cmpN x y = d := ⟨_, rfl⟩
       obtain ⟨d2, hd2⟩ : ∃ d, cmpN y x = d := ⟨_, rfl⟩
       rw [hd] at e1 e2 e3
       rw [hd2] at e3
       have HD := Aside0.mk hd; have HD2 := Aside0.mk hd2; have HE1 := Aside0.mk e1; have HE2 := Aside0.mk e2; have HE3 := Aside0.mk e3
       clear hrx hry ex ey e1 e2 e3 hd hd2
       go_upto_region 19 with (fail)
       refine start_ (n := 10) (S := fun w' => Below wr.heap.size wr w') (ds := []) (tf 0 10) (by kernel_rfl) rfl rfl ((below_drew1 (Below.refl _ _))) (fun hHeld => ?_)
       refine with_tabW lawJoins.tab19 lawJoins.bits19 (fun HT_ HW_ => ?_)
       refine pure_ (i := 0) (N := some 122) (v := ?_) (a' := ?_) (tf 1 9) rfl rfl (any_of HT_.out (by kernel_rfl)) (fun _ _ _ h => h) (Or.inl ⟨by rfl, ?_⟩) ?_ ?_
       rotate_left
       ·intro w'
        go_simp
        with_reducible rfl
       rotate_left
       ·simp only [Act.put, List.setIfInBounds_toArray, List.set_cons_zero, List.set_cons_succ, i64_w, i32_w]
        rfl
       refine pure_ (i := 1) (N := some 123) (v := ?_) (a' := ?_) (tf 2 8) rfl rfl (any_of HT_.out (by kernel_rfl)) (fun _ _ _ h => h) (Or.inl ⟨by rfl, ?_⟩) ?_ ?_
       rotate_left
       ·intro w'
        go_simp
        with_reducible rfl
       rotate_left
       ·simp only [Act.put, List.setIfInBounds_toArray, List.set_cons_zero, List.set_cons_succ, i64_w, i32_w]
        rfl
       refine pure_ (i := 2) (N := some 124) (v := ?_) (a' := ?_) (tf 3 7) rfl rfl (any_of HT_.out (by kernel_rfl)) (fun _ _ _ h => h) (Or.inl ⟨by rfl, ?_⟩) ?_ ?_
       rotate_left
       ·intro w'
        go_simp
        with_reducible rfl
       rotate_left
       ·simp only [Act.put, List.setIfInBounds_toArray, List.set_cons_zero, List.set_cons_succ, i64_w, i32_w]
        rfl
       refine pure_ (i := 4) (N := some 126) (v := ?_) (a' := ?_) #[true, true, true, false, true, false, false, false, false, false] rfl rfl (any_of HT_.out (by kernel_rfl)) (fun _ _ _ h => h) (Or.inl ⟨by rfl, ?_⟩) ?_ ?_
       rotate_left
       ·intro w'
        go_simp
        with_reducible rfl
       rotate_left
       ·simp only [Act.put, List.setIfInBounds_toArray, List.set_cons_zero, List.set_cons_succ, i64_w, i32_w]
        rfl
       refine pure_ (i := 5) (N := some 127) (v := ?_) (a' := ?_) #[true, true, true, false, true, true, false, false, false, false] rfl rfl (any_of HT_.out (by kernel_rfl)) (fun _ _ _ h => h) (Or.inl ⟨by rfl, ?_⟩) ?_ ?_
       rotate_left
       ·intro w'
        go_simp
        with_reducible rfl
       rotate_left
       ·simp only [Act.put, List.setIfInBounds_toArray, List.set_cons_zero, List.set_cons_succ, i64_w, i32_w]
        rfl
       refine pure_ (i := 6) (N := some 128) (v := ?_) (a' := ?_) #[true, true, true, false, true, true, true, false, false, false] rfl rfl (any_of HT_.out (by kernel_rfl)) (fun _ _ _ h => h) (Or.inl ⟨by rfl, ?_⟩) ?_ ?_
       rotate_left
       ·intro w'
        go_simp
        with_reducible rfl
       rotate_left
       ·simp only [Act.put, List.setIfInBounds_toArray, List.set_cons_zero, List.set_cons_succ, i64_w, i32_w]
        rfl
       refine take_ (i := 3) (N := some 125) (v := ?_) (a' := ?_) (tf 7 3) rfl rfl (take_ofW HT_.out HW_.out (by kernel_rfl)) (fun _ _ _ h => h) (Or.inl ⟨by rfl, ?_⟩) hHeld ?_ ?_
       rotate_left
       ·intro w' s0
        obtain ⟨x0, x1, x2⟩ := HCX.out w' (below_step HW.out s0)
        go_simp
        with_reducible rfl
       rotate_left
       ·simp only [Act.put, List.setIfInBounds_toArray, List.set_cons_zero, List.set_cons_succ, i64_w, i32_w]
        rfl
       refine take_ (i := 7) (N := some 129) (v := ?_) (a' := ?_) (tf 8 2) rfl rfl (take_ofW HT_.out HW_.out (by kernel_rfl)) (fun _ _ _ h => h) (Or.inl ⟨by rfl, ?_⟩) hHeld ?_ ?_
       rotate_left
       ·intro w' s0
        obtain ⟨x0, x1, x2⟩ := HCY.out w' (below_step HW.out s0)
        go_simp
        with_reducible rfl
       rotate_left
       ·simp only [Act.put, List.setIfInBounds_toArray, List.set_cons_zero, List.set_cons_succ, i64_w, i32_w]
        rfl
       refine one_ (i := 8) (N := some 130) (tf 9 1) rfl rfl (one_of HT_.out (by kernel_rfl)) (by decide) (fun K hK => ?_)
       refine goes_ Tryd.func12 (by kernel_rfl) rfl #[.agg #[.int .i64 x.f0, .int .i64 x.f1, .string x.f2], .agg #[.int .i64 y.f0, .int .i64 y.f1, .string y.f2]] (by rfl) rfl rfl (by simp only [List.map_toArray, List.map_cons, List.map_nil]; rfl) ?_
       refine (cmp_d d x y _ HD.out).mono ?_
       rintro e w908 ⟨rfl, hb⟩
       refine ⟨_, rfl, ?_⟩
       refine hK.out _ _ (below_step hHeld hb) (fun hHeld => ?_)
       clear hK K
       refine norm_ (a' := ?_) ?_ ?_
       rotate_left
       ·show Act.put _ (some 130) _ = _
        simp only [Act.put, List.setIfInBounds_toArray, List.set_cons_zero, List.set_cons_succ, i64_w, i32_w]
        rfl
       refine pure_ (i := 9) (N := some 17) (v := ?_) (a' := ?_) (tf 10 0) rfl rfl (any_of HT_.out (by kernel_rfl)) (fun _ _ _ h => h) (Or.inl ⟨by rfl, ?_⟩) ?_ ?_
       rotate_left
       ·intro w'
        go_simp
        with_reducible rfl
       rotate_left
       ·simp only [Act.put, List.setIfInBounds_toArray, List.set_cons_zero, List.set_cons_succ, i64_w, i32_w]
        rfl
       refine done_ (done_of HT_.out (by kernel_rfl)) ?_
       obtain ⟨wr2, hw2⟩ : ∃ z, z = w908 := ⟨_, rfl⟩
       rw [← hw2] at hHeld ⊢
       have HW := Aside0.mk (below_step HW.out hHeld)
       clear hHeld hw2 HT_ HW_
       have e1 := HE1.out; have e2 := HE2.out; have e3 := HE3.out
       go_upto_region 20 with (fail)
       refine start_ (n := 28) (S := fun w' => Below wr2.heap.size wr2 w') (ds := []) (tf 0 28) (by kernel_rfl) rfl rfl ((below_drew1 (Below.refl _ _))) (fun hHeld => ?_)
       refine with_tabW lawJoins.tab20 lawJoins.bits20 (fun HT_ HW_ => ?_)
       refine pure_ (i := 0) (N := some 131) (v := ?_) (a' := ?_) (tf 1 27) rfl rfl (any_of HT_.out (by kernel_rfl)) (fun _ _ _ h => h) (Or.inl ⟨by rfl, ?_⟩) ?_ ?_
       rotate_left
       ·intro w'
        go_simp
        with_reducible rfl
       rotate_left
       ·simp only [Act.put, List.setIfInBounds_toArray, List.set_cons_zero, List.set_cons_succ, i64_w, i32_w]
        rfl
       refine pure_ (i := 1) (N := some 132) (v := ?_) (a' := ?_) (tf 2 26) rfl rfl (any_of HT_.out (by kernel_rfl)) (fun _ _ _ h => h) (Or.inl ⟨by rfl, ?_⟩) ?_ ?_
       rotate_left
       ·intro w'
        go_simp
        with_reducible rfl
       rotate_left
       ·simp only [Act.put, List.setIfInBounds_toArray, List.set_cons_zero, List.set_cons_succ, i64_w, i32_w]
        rfl
       refine pure_ (i := 2) (N := some 133) (v := ?_) (a' := ?_) (tf 3 25) rfl rfl (any_of HT_.out (by kernel_rfl)) (fun _ _ _ h => h) (Or.inl ⟨by rfl, ?_⟩) ?_ ?_
       rotate_left
       ·intro w'
        go_simp
        with_reducible rfl
       rotate_left
       ·simp only [Act.put, List.setIfInBounds_toArray, List.set_cons_zero, List.set_cons_succ, i64_w, i32_w]
        rfl
       refine pure_ (i := 3) (N := some 134) (v := ?_) (a' := ?_) (tf 4 24) rfl rfl (any_of HT_.out (by kernel_rfl)) (fun _ _ _ h => h) (Or.inl ⟨by rfl, ?_⟩) ?_ ?_
       rotate_left
       ·intro w'
        go_simp
        with_reducible rfl
       rotate_left
       ·simp only [Act.put, List.setIfInBounds_toArray, List.set_cons_zero, List.set_cons_succ, i64_w, i32_w]
        rfl
       refine pure_ (i := 4) (N := some 135) (v := ?_) (a' := ?_) (tf 5 23) rfl rfl (any_of HT_.out (by kernel_rfl)) (fun _ _ _ h => h) (Or.inl ⟨by rfl, ?_⟩) ?_ ?_
       rotate_left
       ·intro w'
        go_simp
        with_reducible rfl
       rotate_left
       ·simp only [Act.put, List.setIfInBounds_toArray, List.set_cons_zero, List.set_cons_succ, i64_w, i32_w]
        rfl
       refine pure_ (i := 5) (N := some 136) (v := ?_) (a' := ?_) (tf 6 22) rfl rfl (any_of HT_.out (by kernel_rfl)) (fun _ _ _ h => h) (Or.inl ⟨by rfl, ?_⟩) ?_ ?_
       rotate_left
       ·intro w'
        go_simp
        with_reducible rfl
       rotate_left
       ·simp only [Act.put, List.setIfInBounds_toArray, List.set_cons_zero, List.set_cons_succ, i64_w, i32_w]
        rfl
       refine pure_ (i := 6) (N := some 137) (v := ?_) (a' := ?_) (tf 7 21) rfl rfl (any_of HT_.out (by kernel_rfl)) (fun _ _ _ h => h) (Or.inl ⟨by rfl, ?_⟩) ?_ ?_
       rotate_left
       ·intro w'
        go_simp
        with_reducible rfl
       rotate_left
       ·simp only [Act.put, List.setIfInBounds_toArray, List.set_cons_zero, List.set_cons_succ, i64_w, i32_w]
        rfl
       refine pure_ (i := 7) (N := some 138) (v := ?_) (a' := ?_) (tf 8 20) rfl rfl (any_of HT_.out (by kernel_rfl)) (fun _ _ _ h => h) (Or.inl ⟨by rfl, ?_⟩) ?_ ?_
       rotate_left
       ·intro w'
        go_simp
        with_reducible rfl
       rotate_left
       ·simp only [Act.put, List.setIfInBounds_toArray, List.set_cons_zero, List.set_cons_succ, i64_w, i32_w]
        rfl
       refine pure_ (i := 8) (N := some 139) (v := ?_) (a' := ?_) (tf 9 19) rfl rfl (any_of HT_.out (by kernel_rfl)) (fun _ _ _ h => h) (Or.inl ⟨by rfl, ?_⟩) ?_ ?_
       rotate_left
       ·intro w'
        go_simp
        with_reducible rfl
       rotate_left
       ·simp only [Act.put, List.setIfInBounds_toArray, List.set_cons_zero, List.set_cons_succ, i64_w, i32_w]
        rfl
       refine pure_ (i := 9) (N := some 140) (v := ?_) (a' := ?_) (tf 10 18) rfl rfl (any_of HT_.out (by kernel_rfl)) (fun _ _ _ h => h) (Or.inl ⟨by rfl, ?_⟩) ?_ ?_
       rotate_left
       ·intro w'
        go_simp
        with_reducible rfl
       rotate_left
       ·simp only [Act.put, List.setIfInBounds_toArray, List.set_cons_zero, List.set_cons_succ, i64_w, i32_w]
        rfl
       refine pure_ (i := 10) (N := some 141) (v := ?_) (a' := ?_) (tf 11 17) rfl rfl (any_of HT_.out (by kernel_rfl)) (fun _ _ _ h => h) (Or.inl ⟨by rfl, ?_⟩) ?_ ?_
       rotate_left
       ·intro w'
        go_simp
        with_reducible rfl
       rotate_left
       ·simp only [Act.put, List.setIfInBounds_toArray, List.set_cons_zero, List.set_cons_succ, i64_w, i32_w]
        rfl
       refine pure_ (i := 11) (N := some 142) (v := ?_) (a' := ?_) (tf 12 16) rfl rfl (any_of HT_.out (by kernel_rfl)) (fun _ _ _ h => h) (Or.inl ⟨by rfl, ?_⟩) ?_ ?_
       rotate_left
       ·intro w'
        go_simp
        with_reducible rfl
       rotate_left
       ·simp only [Act.put, List.setIfInBounds_toArray, List.set_cons_zero, List.set_cons_succ, i64_w, i32_w]
        rfl
       refine pure_ (i := 12) (N := some 143) (v := ?_) (a' := ?_) (tf 13 15) rfl rfl (any_of HT_.out (by kernel_rfl)) (fun _ _ _ h => h) (Or.inl ⟨by rfl, ?_⟩) ?_ ?_
       rotate_left
       ·intro w'
        go_simp
        with_reducible rfl
       rotate_left
       ·simp only [Act.put, List.setIfInBounds_toArray, List.set_cons_zero, List.set_cons_succ, i64_w, i32_w]
        rfl
       refine pure_ (i := 13) (N := some 144) (v := ?_) (a' := ?_) (tf 14 14) rfl rfl (any_of HT_.out (by kernel_rfl)) (fun _ _ _ h => h) (Or.inl ⟨by rfl, ?_⟩) ?_ ?_
       rotate_left
       ·intro w'
        go_simp
        with_reducible rfl
       rotate_left
       ·simp only [Act.put, List.setIfInBounds_toArray, List.set_cons_zero, List.set_cons_succ, i64_w, i32_w]
        rfl
       refine pure_ (i := 14) (N := some 145) (v := ?_) (a' := ?_) (tf 15 13) rfl rfl (any_of HT_.out (by kernel_rfl)) (fun _ _ _ h => h) (Or.inl ⟨by rfl, ?_⟩) ?_ ?_
       rotate_left
       ·intro w'
        go_simp
        with_reducible rfl
       rotate_left
       ·simp only [Act.put, List.setIfInBounds_toArray, List.set_cons_zero, List.set_cons_succ, i64_w, i32_w]
        rfl
       refine pure_ (i := 15) (N := some 146) (v := ?_) (a' := ?_) (tf 16 12) rfl rfl (any_of HT_.out (by kernel_rfl)) (fun _ _ _ h => h) (Or.inl ⟨by rfl, ?_⟩) ?_ ?_
       rotate_left
       ·intro w'
        go_simp
        with_reducible rfl
       rotate_left
       ·simp only [Act.put, List.setIfInBounds_toArray, List.set_cons_zero, List.set_cons_succ, i64_w, i32_w]
        rfl
       refine pure_ (i := 16) (N := some 147) (v := ?_) (a' := ?_) (tf 17 11) rfl rfl (any_of HT_.out (by kernel_rfl)) (fun _ _ _ h => h) (Or.inl ⟨by rfl, ?_⟩) ?_ ?_
       rotate_left
       ·intro w'
        go_simp
        with_reducible rfl
       rotate_left
       ·simp only [Act.put, List.setIfInBounds_toArray, List.set_cons_zero, List.set_cons_succ, i64_w, i32_w]
        rfl
       refine pure_ (i := 17) (N := some 148) (v := ?_) (a' := ?_) (tf 18 10) rfl rfl (any_of HT_.out (by kernel_rfl)) (fun _ _ _ h => h) (Or.inl ⟨by rfl, ?_⟩) ?_ ?_
       rotate_left
       ·intro w'
        go_simp
        with_reducible rfl
       rotate_left
       ·simp only [Act.put, List.setIfInBounds_toArray, List.set_cons_zero, List.set_cons_succ, i64_w, i32_w]
        rfl
       refine pure_ (i := 18) (N := some 149) (v := ?_) (a' := ?_) (tf 19 9) rfl rfl (any_of HT_.out (by kernel_rfl)) (fun _ _ _ h => h) (Or.inl ⟨by rfl, ?_⟩) ?_ ?_
       rotate_left
       ·intro w'
        go_simp
        with_reducible rfl
       rotate_left
       ·simp only [Act.put, List.setIfInBounds_toArray, List.set_cons_zero, List.set_cons_succ, i64_w, i32_w]
        rfl
       refine pure_ (i := 20) (N := some 151) (v := ?_) (a' := ?_) #[true, true, true, true, true, true, true, true, true, true, true, true, true, true, true, true, true, true, true, false, true, false, false, false, false, false, false, false] rfl rfl (any_of HT_.out (by kernel_rfl)) (fun _ _ _ h => h) (Or.inl ⟨by rfl, ?_⟩) ?_ ?_
       rotate_left
       ·intro w'
        go_simp
        with_reducible rfl
       rotate_left
       ·simp only [Act.put, List.setIfInBounds_toArray, List.set_cons_zero, List.set_cons_succ, i64_w, i32_w]
        rfl
       refine pure_ (i := 21) (N := some 152) (v := ?_) (a' := ?_) #[true, true, true, true, true, true, true, true, true, true, true, true, true, true, true, true, true, true, true, false, true, true, false, false, false, false, false, false] rfl rfl (any_of HT_.out (by kernel_rfl)) (fun _ _ _ h => h) (Or.inl ⟨by rfl, ?_⟩) ?_ ?_
       rotate_left
       ·intro w'
        go_simp
        with_reducible rfl
       rotate_left
       ·simp only [Act.put, List.setIfInBounds_toArray, List.set_cons_zero, List.set_cons_succ, i64_w, i32_w]
        rfl
       refine pure_ (i := 22) (N := some 153) (v := ?_) (a' := ?_) #[true, true, true, true, true, true, true, true, true, true, true, true, true, true, true, true, true, true, true, false, true, true, true, false, false, false, false, false] rfl rfl (any_of HT_.out (by kernel_rfl)) (fun _ _ _ h => h) (Or.inl ⟨by rfl, ?_⟩) ?_ ?_
       rotate_left
       ·intro w'
        go_simp
        with_reducible rfl
       rotate_left
       ·simp only [Act.put, List.setIfInBounds_toArray, List.set_cons_zero, List.set_cons_succ, i64_w, i32_w]
        rfl
       refine take_ (i := 19) (N := some 150) (v := ?_) (a' := ?_) (tf 23 5) rfl rfl (take_ofW HT_.out HW_.out (by kernel_rfl)) (fun _ _ _ h => h) (Or.inl ⟨by rfl, ?_⟩) hHeld ?_ ?_
       rotate_left
       ·intro w' s0
        obtain ⟨x0, x1, x2⟩ := HCY.out w' (below_step HW.out s0)
        go_simp
        with_reducible rfl
       rotate_left
       ·simp only [Act.put, List.setIfInBounds_toArray, List.set_cons_zero, List.set_cons_succ, i64_w, i32_w]
        rfl
       refine take_ (i := 23) (N := some 154) (v := ?_) (a' := ?_) (tf 24 4) rfl rfl (take_ofW HT_.out HW_.out (by kernel_rfl)) (fun _ _ _ h => h) (Or.inl ⟨by rfl, ?_⟩) hHeld ?_ ?_
       rotate_left
       ·intro w' s0
        obtain ⟨x0, x1, x2⟩ := HCX.out w' (below_step HW.out s0)
        go_simp
        with_reducible rfl
       rotate_left
       ·simp only [Act.put, List.setIfInBounds_toArray, List.set_cons_zero, List.set_cons_succ, i64_w, i32_w]
        rfl
       refine one_ (i := 24) (N := some 155) (tf 25 3) rfl rfl (one_of HT_.out (by kernel_rfl)) (by decide) (fun K hK => ?_)
       refine goes_ Tryd.func12 (by kernel_rfl) rfl #[.agg #[.int .i64 y.f0, .int .i64 y.f1, .string y.f2], .agg #[.int .i64 x.f0, .int .i64 x.f1, .string x.f2]] (by rfl) rfl rfl (by simp only [List.map_toArray, List.map_cons, List.map_nil]; rfl) ?_
       refine (cmp_d d2 y x _ HD2.out).mono ?_
       rintro e w924 ⟨rfl, hb⟩
       refine ⟨_, rfl, ?_⟩
       refine hK.out _ _ (below_step hHeld hb) (fun hHeld => ?_)
       clear hK K
       refine norm_ (a' := ?_) ?_ ?_
       rotate_left
       ·show Act.put _ (some 155) _ = _
        simp only [Act.put, List.setIfInBounds_toArray, List.set_cons_zero, List.set_cons_succ, i64_w, i32_w]
        rfl
       refine pure_ (i := 25) (N := some 156) (v := ?_) (a' := ?_) (tf 26 2) rfl rfl (any_of HT_.out (by kernel_rfl)) (fun _ _ _ h => h) (Or.inl ⟨by rfl, ?_⟩) ?_ ?_
       rotate_left
       ·intro w'
        go_simp
        with_reducible rfl
       rotate_left
       ·simp only [Act.put, List.setIfInBounds_toArray, List.set_cons_zero, List.set_cons_succ, i64_w, i32_w]
        rfl
       refine pure_ (i := 26) (N := some 157) (v := ?_) (a' := ?_) (tf 27 1) rfl rfl (any_of HT_.out (by kernel_rfl)) (fun _ _ _ h => h) (Or.inl ⟨by rfl, ?_⟩) ?_ ?_
       rotate_left
       ·intro w'
        go_simp
        with_reducible rfl
       rotate_left
       ·simp only [Act.put, List.setIfInBounds_toArray, List.set_cons_zero, List.set_cons_succ, i64_w, i32_w]
        rfl
       refine pure_ (i := 27) (N := some 158) (v := ?_) (a' := ?_) (tf 28 0) rfl rfl (any_of HT_.out (by kernel_rfl)) (fun _ _ _ h => h) (Or.inl ⟨by rfl, ?_⟩) ?_ ?_
       rotate_left
       ·intro w'
        go_simp
        with_reducible rfl
       rotate_left
       ·simp only [Act.put, List.setIfInBounds_toArray, List.set_cons_zero, List.set_cons_succ, i64_w, i32_w]
        rfl
       refine done_ (done_of HT_.out (by kernel_rfl)) ?_
       have HW := Aside0.mk (below_step HW.out hHeld)
       clear hHeld HT_ HW_
       go_wp2
       go_roundw
       case rel => exact ⟨k + 1, by simp, by omega, HW⟩
       case measure => show P.length - ((k : Int) + 1).toNat < P.length - (k : Int).toNat; omega
      ·go_wp2
       go_roundw
       case rel => exact ⟨i + 1, by simp, by omega, HW⟩
       case measure => show P.length - ((i : Int) + 1).toNat < P.length - (i : Int).toNat; omega
    ·go_wp2
     go_ret
     exact ⟨rfl, below_step HBL.out HW.out⟩
/-- What reads at type t reads as a value of kind K, of which Q holds. -/
structure Opens {α : Type} (P : Program) (t : TypeId) (K : Kd α) (Q : α → Prop) : Prop where
 out : ∀ {H : Type} {enc : TypeId × Value → H} {W : World} {base : Nat} {sp : Nat → Bool} {held : Bool} {fuel : Nat} {cs : List Value} {x : DataW H × List MemPlace},
  (∀ n ∈ x.1.weights P t, n ≤ reachBytes) → DataW.trod enc P W base sp held fuel t cs = some x → ∃ y, K.K W y cs ∧ Q y
section
variable {P : Program}
theorem opens_string {t : TypeId} (ht : P.underlying t = some .string) : Opens P t Kd.string (fun s => s.size ≤ 140737488351232) := by
 constructor
 intro H enc W base sp held fuel cs x hw h
 obtain ⟨s, rfl, rfl, hs⟩ : ∃ s : ByteArray, cs = [.string s] ∧ x = (.lit (.string s.data.toList), []) ∧ s.size ≤ maxLen := by
  cases fuel with
  | zero => simp [DataW.trod] at h
  | succ n =>
   unfold DataW.trod at h
   rw [ht] at h
   split at h <;> simp_all
 refine ⟨s, rfl, ?_⟩
 have := hw s.data.toList.length (by simp [DataW.weights])
 rw [Array.length_toList] at this
 exact this
theorem opens_int {t : TypeId} {q : IntKind} (ht : P.underlying t = some (.int q)) : Opens P t (Kd.int q) (fun n => (Lit.int q n).wf = true) := by
 constructor
 intro H enc W base sp held fuel cs x hw h
 obtain ⟨n, rfl, hs⟩ : ∃ n : Int, cs = [.int q n] ∧ (Lit.int q n).wf = true := by
  cases fuel with
  | zero => simp [DataW.trod] at h
  | succ n =>
   unfold DataW.trod at h
   rw [ht] at h
   split at h <;> simp_all
 exact ⟨n, rfl, hs⟩
theorem weights_all {H : Type} {e : TypeId} : ∀ {ds : List (DataW H)} {d : DataW H}, d ∈ ds → ∀ n ∈ d.weights P e, n ∈ DataW.weightsAll P e ds
 | d0 :: ds, d, hd, n, hn => by
  simp only [DataW.weightsAll, List.mem_append]
  rcases List.mem_cons.mp hd with rfl | h
  ·exact .inl hn
  ·exact .inr (weights_all h n hn)
theorem choose_list {α : Type} {p : Nat → α → Prop} : ∀ {n : Nat}, (∀ i, i < n → ∃ y, p i y) → ∃ ys : List α, ys.length = n ∧ ∀ i y, ys[i]? = some y → p i y
 | 0, _ => ⟨[], rfl, fun i y h => by simp at h⟩
 | n + 1, h => by
  obtain ⟨ys, hl, hy⟩ := choose_list (n := n) (fun i hi => h i (by omega))
  obtain ⟨y, hp⟩ := h n (by omega)
  refine ⟨ys ++ [y], by simp [hl], fun i z hz => ?_⟩
  by_cases hi : i < n
  ·rw [List.getElem?_append_left (by omega)] at hz
   exact hy i z hz
  ·have := (List.getElem?_eq_some_iff.mp hz).1
   simp at this
   have e : i = n := by omega
   subst e
   rw [List.getElem?_append_right (by omega)] at hz
   simp [hl] at hz
   subst hz
   exact hp
theorem opens_slice {α : Type} {t e : TypeId} {K : Kd α} {Q : α → Prop} (he : Opens P e K Q) (ht : P.underlying t = some (.slice e)) (hc : P.cellsOf e = K.sz) (bytes : Nat) (hb : P.bytesOf e = bytes) :
  Opens P t (Kd.slice e K) (fun l => l.length * bytes ≤ 140737488351232 ∧ ∀ x ∈ l, Q x) := by
 constructor
 intro H enc W base sp held fuel cs x hw h
 rcases Deep.open_slice ht h with ⟨rfl, rfl⟩ | ⟨a, len, cap, m, n, D, Pl, rfl, _, hl, hm, hmm, rfl, hel⟩
 ·exact ⟨[], ⟨none, 0, rfl, Nat.le_refl _, Kd.C_nil K W⟩, by simp, by simp⟩
 ·have hlm : len ≤ m := by rw [hmm]; split <;> omega
  have hw' : ∀ i, i < len → ∀ k ∈ (D i).weights P e, k ≤ reachBytes := fun i hi k hk => hw k (by
   simp only [DataW.weights, ht, List.mem_cons, List.mem_append]
   exact .inr (.inl (weights_all (List.mem_map.mpr ⟨i, by simpa using hi, rfl⟩) k hk)))
  obtain ⟨ys, hys, hY⟩ := choose_list (n := len) (p := fun i y => (∃ c, c.length = K.sz ∧ K.K W y c ∧ ∀ j u, c[j]? = some u → W.cell? (a.add (i * K.sz + j)) = some u) ∧ Q y) (fun i hi => by
   obtain ⟨c, h1, h2⟩ := hel i (by omega)
   obtain ⟨y, hy, hq⟩ := he.out (hw' i hi) h2
   obtain ⟨_, h3, h4⟩ := World.cells?_some h1
   rw [hc] at h3 h4
   refine ⟨y, ⟨c, h3, hy, fun j u hu => ?_⟩, hq⟩
   have hj : j < K.sz := by
    have := (List.getElem?_eq_some_iff.mp hu).1
    omega
   have h5 := h4 j hj
   rw [Addr.add_add] at h5
   rw [h5, hu])
  have hlen : len ≤ maxLen := by omega
  refine ⟨ys, ⟨some a, cap, by rw [hys], by omega, rfl, by rw [hys]; unfold maxLen at hlen; omega, fun _ => ⟨a, rfl, fun j p hj => (hY j p hj).1⟩⟩, ?_, ?_⟩
  ·have := hw ((((List.range len).map D).length + ((List.range (m - len)).map fun j => D (len + j)).length) * P.bytesOf e) (by simp [DataW.weights, ht])
   rw [hb] at this
   simp only [List.length_map, List.length_range] at this
   have h2 : len * bytes ≤ (len + (m - len)) * bytes := Nat.mul_le_mul_right _ (by omega)
   rw [hys]
   unfold reachBytes at this
   omega
  ·intro x hx
   obtain ⟨i, hi, rfl⟩ := List.mem_iff_getElem.mp hx
   exact (hY i _ (List.getElem?_eq_getElem hi)).2
/-- The fields from one on. -/
structure OpensF {α : Type} (P : Program) (fs : List Field) (off : Nat) (K : Kd α) (Q : α → Prop) : Prop where
 out : ∀ {H : Type} {enc : TypeId × Value → H} {W : World} {base : Nat} {sp : Nat → Bool} {held : Bool} {fuel : Nat} {cs : List Value} {xs : List (DataW H × List MemPlace)},
  cs.length = off + K.sz → (∀ n ∈ DataW.weightsEach P (fs.map (·.type)) (xs.map (·.1)), n ≤ reachBytes) → (fs.mapM fun f => DataW.trod enc P W base sp held fuel f.type ((cs.drop f.offset).take (P.cellsOf f.type))) = some xs → ∃ y, K.K W y (cs.drop off) ∧ Q y
theorem opensF_last {α : Type} {f : Field} {off t : Nat} {K : Kd α} {Q : α → Prop} (h : Opens P t K Q) (h0 : f.type = t) (hc : P.cellsOf t = K.sz) (ho : f.offset = off) : OpensF P [f] off K Q := by
 constructor
 intro H enc W base sp held fuel cs xs hl hw hm
 subst h0
 simp only [List.mapM_cons, List.mapM_nil, Option.pure_def, Option.bind_eq_bind, Option.bind_some] at hm
 obtain ⟨x, hx, hm⟩ := Option.bind_eq_some_iff.mp hm
 obtain rfl := Option.some.inj hm
 rw [hc, ho, List.take_of_length_le (by rw [List.length_drop]; omega)] at hx
 exact h.out (fun n hn => hw n (by simp [DataW.weightsEach, hn])) hx
theorem opensF_cons {α β : Type} {f : Field} {fs : List Field} {off t : Nat} {K : Kd α} {K1 : Kd β} {Q : α → Prop} {Q1 : β → Prop} (h : Opens P t K Q) (h0 : f.type = t) (hc : P.cellsOf t = K.sz) (ho : f.offset = off) (h1 : OpensF P fs (off + K.sz) K1 Q1) :
  OpensF P (f :: fs) off (Kd.pair K K1) (fun p => Q p.1 ∧ Q1 p.2) := by
 constructor
 intro H enc W base sp held fuel cs xs hl hw hm
 subst h0
 have hl : cs.length = off + (K.sz + K1.sz) := hl
 rw [List.mapM_cons] at hm
 simp only [Option.pure_def, Option.bind_eq_bind] at hm
 obtain ⟨x, hx, hm⟩ := Option.bind_eq_some_iff.mp hm
 obtain ⟨xs', hxs, hm⟩ := Option.bind_eq_some_iff.mp hm
 obtain rfl := Option.some.inj hm
 rw [hc, ho] at hx
 obtain ⟨y, hy, hq⟩ := h.out (fun n hn => hw n (by simp only [List.map_cons, DataW.weightsEach, List.mem_append]; exact .inl hn)) hx
 obtain ⟨z, hz, hq1⟩ := h1.out (by omega) (fun n hn => hw n (by simp only [List.map_cons, DataW.weightsEach, List.mem_append]; exact .inr hn)) hxs
 refine ⟨(y, z), ⟨(cs.drop off).take K.sz, cs.drop (off + K.sz), ?_, hy, hz⟩, hq, hq1⟩
 rw [← List.drop_drop, List.take_append_drop]
theorem opens_struct {α β : Type} {t : TypeId} {fs : Array Field} {K : Kd α} {Q : α → Prop} (ht : P.underlying t = some (.struct fs)) (h : OpensF P fs.toList 0 K Q) (hc : P.cellsOf t = K.sz) (g : β → α) (g' : α → β) (hg : ∀ y, g (g' y) = y) : Opens P t (Kd.iso K g) (fun x => Q (g x)) := by
 constructor
 intro H enc W base sp held fuel cs x hw hm
 cases fuel with
 | zero => simp [DataW.trod] at hm
 | succ n =>
  unfold DataW.trod at hm
  rw [ht] at hm
  simp only at hm
  split at hm
  ·rename_i hl
   obtain ⟨xs, hxs, rfl⟩ := Option.map_eq_some_iff.mp hm
   obtain ⟨y, hy, hq⟩ := h.out (cs := cs) (xs := xs) (by rw [hl, hc]; omega) (fun n hn => hw n (by simp only [DataW.weights, ht]; exact hn)) hxs
   exact ⟨g' y, by show K.K W (g (g' y)) cs; rw [hg]; simpa using hy, by show Q (g (g' y)); rw [hg]; exact hq⟩
  ·cases hm
theorem opens_struct' {α β : Type} {t : TypeId} {fs : Array Field} {K : Kd α} {Q : α → Prop} {k : Kd β} {WF : β → Prop} (g' : α → β) (g : β → α) (ht : P.underlying t = some (.struct fs)) (h : OpensF P fs.toList 0 K Q) (hc : P.cellsOf t = K.sz) (hk : k = Kd.iso K g) (hg : ∀ y, g (g' y) = y) (hQ : ∀ x, Q (g x) → WF x) : Opens P t k WF := by
 subst hk
 constructor
 intro H enc W base sp held fuel cs x hw hm
 obtain ⟨y, h1, h2⟩ := (opens_struct ht h hc g g' hg).out hw hm
 exact ⟨y, h1, hQ y h2⟩
end
def WF24 (x : S24) : Prop := ((fun n : Int => (Lit.int .i64 n).wf = true) x.f0) ∧ ((fun n : Int => (Lit.int .i64 n).wf = true) x.f1) ∧ ((fun s : ByteArray => s.size ≤ 140737488351232) x.f2)
theorem opens24 : Opens Tryd.prog 24 k24 WF24 :=
 opens_struct' (fun p : (Int) × (Int) × (ByteArray) => (⟨p.1, p.2.1, p.2.2⟩ : S24)) (fun x : S24 => (x.f0, x.f1, x.f2)) Tryd.underlying24 (opensF_cons (opens_int Tryd.underlying3) rfl (by kernel_rfl) rfl (opensF_cons (opens_int Tryd.underlying3) rfl (by kernel_rfl) rfl (opensF_last (opens_string Tryd.underlying9) rfl (by kernel_rfl) rfl))) (by kernel_rfl) rfl (fun _ => rfl) (fun _ h => h)
noncomputable def NodeJoins.Pure : Prop := ∀ (l0 : List (S24)) (l1 : List (S24)) (l2 : List (S24)) (a3_0 : Int) (a3_1 : Int) (a3_2 : ByteArray), (fun l : List (S24) => l.length * 32 ≤ 140737488351232 ∧ ∀ x ∈ l, WF24 x) l0 → (fun l : List (S24) => l.length * 32 ≤ 140737488351232 ∧ ∀ x ∈ l, WF24 x) l1 → (fun l : List (S24) => l.length * 32 ≤ 140737488351232 ∧ ∀ x ∈ l, WF24 x) l2 → WF24 ⟨a3_0, a3_1, a3_2⟩ → ∃ k, truantlaw18_NodeJoins.f k l0 l1 l2 a3_0 a3_1 a3_2 = some true
theorem wf_ndJ {x : Nd} (h : WF24 x) : ndW x := ⟨h.1, h.2.1, by have := h.2.2; show x.f2.size ≤ maxLen; unfold maxLen; omega⟩
theorem NodeJoins_pure : NodeJoins.Pure := by
 intro l0 l1 l2 a0 a1 a2 h0 h1 h2 h3
 have hd : decB ((∀ x ∈ l0, ndW x) ∧ (∀ x ∈ l1, ndW x) ∧ (∀ x ∈ l2, ndW x) ∧ ndW ⟨a0, a1, a2⟩) = true := decB_true ⟨fun x hx => wf_ndJ (h0.2 x hx), fun x hx => wf_ndJ (h1.2 x hx), fun x hx => wf_ndJ (h2.2 x hx), wf_ndJ h3⟩
 have : truantlaw18_NodeJoins.f 0 l0 l1 l2 a0 a1 a2 = some true := by unfold truantlaw18_NodeJoins.f; rw [hd, if_pos rfl]
 exact ⟨0, this⟩
end Go.Proofs.YtgidnkmlnccaiaaDoor.Q
