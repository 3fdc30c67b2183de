/- What the row of UIrUses rests on, part 4: contracts of the functions that it reaches, and the plain law. -/
import Derived.Test.YtkiiojgaaoaipaaDoorJUIrUses3
/- The anchor of chapter 8: by hand. -/
namespace Go.Proofs.YtkiiojgaaoaipaaDoor.Q
open Go.RowKit Go.Proofs.YtkiiojgaaoaipaaDoorW.PrintWords Go.Proofs.YtkiiojgaaoaipaaDoorW.PrintLast Go.Proofs.YtkiiojgaaoaipaaDoorW.PrintMore
set_option linter.unusedVariables false
set_option linter.unusedSimpArgs false
theorem C_one {w : World} {b : Nat} {x : S40} {cs : Array Value} (hb : w.heap[b]? = some (.cells cs 40 (0, 0))) (hk : k40.K w x cs.toList) : k40.C w (some ⟨b, 0, none⟩) 1 [x] := by
 refine ⟨rfl, by simp [maxLen], fun _ => ⟨⟨b, 0, none⟩, rfl, fun j p hj => ?_⟩⟩
 have hj0 : j = 0 := by
  rcases j with _ | j
  ·rfl
  ·simp at hj
 subst hj0
 obtain rfl : x = p := by simpa using hj
 refine ⟨cs.toList, k40.K_len hk, hk, fun i u hu => ?_⟩
 have : (Addr.add ⟨b, 0, none⟩ (0 * k40.sz + i)) = ⟨b, i, none⟩ := by rw [Nat.zero_mul, Nat.zero_add]; exact add_plain _ _
 rw [this]
 rw [blk_cell hb]
 rwa [Array.getElem?_toList] at hu
def truantlaw08_awake.f : Option (Bool) := some true
def truantlaw08_awake.T9 : Bool × List (List Nat × List Nat) := (true, [([], []), ([0], [0]), ([1], [1]), ([2, 1], [2]), ([3], [3]), ([4, 3], [3, 4]), ([5, 3], [3, 5]), ([3, 6], [3, 6]), ([7, 3], [7]), ([8], [8]), ([9, 8], [8, 9]), ([10, 8], [8, 10]), ([11, 8], [8, 11]), ([8, 12], [8, 12]), ([13, 8], [13]), ([14], [14]), ([15, 14], [14, 15]), ([16, 14], [14, 16]), ([17, 14], [14, 17]), ([14, 18], [14, 18]), ([19, 14], [19]), ([20], [20]), ([21, 20], [20, 21]), ([22, 20], [20, 22]), ([20, 23], [20, 23]), ([24, 20], [24]), ([25], [25]), ([26, 25], [25, 26]), ([27, 25], [25, 27]), ([28, 25], [25, 28]), ([25, 29], [25, 29]), ([30, 25], [30]), ([31], [31]), ([31], [31]), ([32, 33, 31, 31], [31, 32, 33]), ([34, 31], [31, 34]), ([31, 35], [31, 35]), ([36, 34], [36]), ([37], [37]), ([37], [37]), ([39, 37, 37], [37, 39]), ([38, 40, 40, 37], [37, 38, 40]), ([37, 41], [37, 41]), ([42, 41], [42]), ([43, 43], [43]), ([43, 44], [43, 44]), ([45, 44], [45]), ([46, 46], [46]), ([47, 46], [46, 47]), ([46, 48], [46, 48]), ([49, 47], [49]), ([50, 50], [50]), ([51, 50], [50, 51]), ([50, 52], [50, 52]), ([53, 51], [53]), ([54, 54], [54]), ([54, 55], [54, 55]), ([56, 55], [56]), ([57, 57], [57]), ([58, 57], [57, 58]), ([57, 59], [57, 59]), ([60, 58], [60]), ([61, 61], [61]), ([62, 61], [61, 62]), ([61, 63], [61, 63]), ([64, 62, 0, 1, 2, 3, 4, 5, 6, 7, 8, 9, 10, 11, 12, 13, 14, 15, 16, 17, 18, 19, 20, 21, 22, 23, 24, 25, 26, 27, 28, 29, 30, 31, 32, 33, 34, 35, 36, 37, 38, 39, 40, 41, 42, 43, 44, 45, 46, 47, 48, 49, 50, 51, 52, 53, 54, 55, 56, 57, 58, 59, 60, 61, 62, 63, 64], [64])])
def truantlaw08_awake.B9 : List Nat := [0, 1, 3, 7, 15, 31, 63, 127, 255, 511, 1023, 2047, 4095, 8191, 16383, 32767, 65535, 131071, 262143, 524287, 1048575, 2097151, 4194303, 8388607, 16777215, 33554431, 67108863, 134217727, 268435455, 536870911, 1073741823, 2147483647, 4294967295, 4294967295, 17179869183, 34359738367, 68719476735, 137438953471, 274877906943, 274877906943, 824633720831, 2199023255551, 4398046511103, 8796093022207, 17592186044415, 35184372088831, 70368744177663, 140737488355327, 281474976710655, 562949953421311, 1125899906842623, 2251799813685247, 4503599627370495, 9007199254740991, 18014398509481983, 36028797018963967, 72057594037927935, 144115188075855871, 288230376151711743, 576460752303423487, 1152921504606846975, 2305843009213693951, 4611686018427387903, 9223372036854775807, 18446744073709551615, 36893488147419103231]
theorem truantlaw08_awake.tab9 : rtab .any (opsOf Tryd.f7 9) = truantlaw08_awake.T9 := by kernel_rfl
theorem truantlaw08_awake.bits9 : waitsOk truantlaw08_awake.T9.2 truantlaw08_awake.B9 = true := by kernel_rfl
set_option maxRecDepth 100000 in
set_option maxHeartbeats 8000000 in
theorem truantlaw08_awake.calls  (r : Bool) (w : World) (h : truantlaw08_awake.f = some r) (hG : Glob w := by first | assumption | (refine Glob.below (by assumption) ?_; repeat (first | with_reducible exact (Aside0.out (by assumption)) | (refine below_set ?_ (Aside0.out (by assumption))) | (with_reducible first | apply below_alloc | apply pw_below_drewN | apply below_drew1) | exact (Aside0.out (by assumption))))) :
  Calls Tryd.prog 7 #[] w fun e w' => e = .returned (.bool r) ∧ Below w.heap.size w w' := by
 obtain rfl := Option.some.inj h
 clear h
 have HG := Aside0.mk hG; clear hG
 go_enter Tryd.func7, Tryd.ntmps7
 go_wp2_with fail
 refine (truantlaw08_one.calls _ _ _ _ _ _ _ one_is).mono ?_
 rintro e w1 ⟨v1, v3, v4, v5, rfl, hv1, hv3, hv4, hv5, hb1⟩
 obtain ⟨A1, c1, rfl⟩ := Kd.R_slice hv1
 obtain ⟨A3, c3, rfl⟩ := Kd.R_slice hv3
 obtain ⟨A4, c4, rfl⟩ := Kd.N_slice hv4
 obtain ⟨A5, c5, rfl⟩ := Kd.N_slice hv5
 have HV1 := Aside0.mk (Kd.R_reads' hv1).2; have HV3 := Aside0.mk (Kd.R_reads' hv3).2; have HV4 := Aside0.mk (Kd.N_reads' hv4).2; have HV5 := Aside0.mk (Kd.N_reads' hv5).2
 have HB1 := Aside0.mk hb1
 clear hv1 hv3 hv4 hv5 hb1
 go_upto_region 3 with fail
 have s1 : (w1.alloc (.cells #[.string oneF.f0, .slice A1 oneF.f1.length c1, .string oneF.f2, .slice A3 oneF.f3.length c3, .slice A4 oneF.f4.length c4, .slice A5 oneF.f5.length c5] 40)).heap.size = w1.heap.size + 1 := World.size_alloc _ _
 have s2 : ((w1.alloc (.cells #[.string oneF.f0, .slice A1 oneF.f1.length c1, .string oneF.f2, .slice A3 oneF.f3.length c3, .slice A4 oneF.f4.length c4, .slice A5 oneF.f5.length c5] 40)).alloc (.cells #[.string oneF.f0, .slice A1 oneF.f1.length c1, .string oneF.f2, .slice A3 oneF.f3.length c3, .slice A4 oneF.f4.length c4, .slice A5 oneF.f5.length c5] 40)).heap.size = w1.heap.size + 1 + 1 := by rw [World.size_alloc, s1]
 have q1 : (((w1.alloc (.cells #[.string oneF.f0, .slice A1 oneF.f1.length c1, .string oneF.f2, .slice A3 oneF.f3.length c3, .slice A4 oneF.f4.length c4, .slice A5 oneF.f5.length c5] 40)).alloc (.cells #[.string oneF.f0, .slice A1 oneF.f1.length c1, .string oneF.f2, .slice A3 oneF.f3.length c3, .slice A4 oneF.f4.length c4, .slice A5 oneF.f5.length c5] 40)).alloc (.cells #[.slice none 0 0, .slice none 0 0, .slice (some ⟨w1.heap.size + 1, 0, none⟩) 1 1] 26)).heap[w1.heap.size]? = some (.cells #[.string oneF.f0, .slice A1 oneF.f1.length c1, .string oneF.f2, .slice A3 oneF.f3.length c3, .slice A4 oneF.f4.length c4, .slice A5 oneF.f5.length c5] 40 (0, 0)) := blk_alloc (blk_alloc (blk_new w1 _) _) _
 have q2 : (((w1.alloc (.cells #[.string oneF.f0, .slice A1 oneF.f1.length c1, .string oneF.f2, .slice A3 oneF.f3.length c3, .slice A4 oneF.f4.length c4, .slice A5 oneF.f5.length c5] 40)).alloc (.cells #[.string oneF.f0, .slice A1 oneF.f1.length c1, .string oneF.f2, .slice A3 oneF.f3.length c3, .slice A4 oneF.f4.length c4, .slice A5 oneF.f5.length c5] 40)).alloc (.cells #[.slice none 0 0, .slice none 0 0, .slice (some ⟨w1.heap.size + 1, 0, none⟩) 1 1] 26)).heap[w1.heap.size + 1]? = some (.cells #[.string oneF.f0, .slice A1 oneF.f1.length c1, .string oneF.f2, .slice A3 oneF.f3.length c3, .slice A4 oneF.f4.length c4, .slice A5 oneF.f5.length c5] 40 (0, 0)) := by
  have := blk_alloc (blk_new (w1.alloc (.cells #[.string oneF.f0, .slice A1 oneF.f1.length c1, .string oneF.f2, .slice A3 oneF.f3.length c3, .slice A4 oneF.f4.length c4, .slice A5 oneF.f5.length c5] 40)) (.cells #[.string oneF.f0, .slice A1 oneF.f1.length c1, .string oneF.f2, .slice A3 oneF.f3.length c3, .slice A4 oneF.f4.length c4, .slice A5 oneF.f5.length c5] 40)) (.cells #[.slice none 0 0, .slice none 0 0, .slice (some ⟨w1.heap.size + 1, 0, none⟩) 1 1] 26)
  rw [s1] at this
  exact this
 have q3 : (((w1.alloc (.cells #[.string oneF.f0, .slice A1 oneF.f1.length c1, .string oneF.f2, .slice A3 oneF.f3.length c3, .slice A4 oneF.f4.length c4, .slice A5 oneF.f5.length c5] 40)).alloc (.cells #[.string oneF.f0, .slice A1 oneF.f1.length c1, .string oneF.f2, .slice A3 oneF.f3.length c3, .slice A4 oneF.f4.length c4, .slice A5 oneF.f5.length c5] 40)).alloc (.cells #[.slice none 0 0, .slice none 0 0, .slice (some ⟨w1.heap.size + 1, 0, none⟩) 1 1] 26)).heap[w1.heap.size + 1 + 1]? = some (.cells #[.slice none 0 0, .slice none 0 0, .slice (some ⟨w1.heap.size + 1, 0, none⟩) 1 1] 26 (0, 0)) := by
  have := blk_new ((w1.alloc (.cells #[.string oneF.f0, .slice A1 oneF.f1.length c1, .string oneF.f2, .slice A3 oneF.f3.length c3, .slice A4 oneF.f4.length c4, .slice A5 oneF.f5.length c5] 40)).alloc (.cells #[.string oneF.f0, .slice A1 oneF.f1.length c1, .string oneF.f2, .slice A3 oneF.f3.length c3, .slice A4 oneF.f4.length c4, .slice A5 oneF.f5.length c5] 40)) (.cells #[.slice none 0 0, .slice none 0 0, .slice (some ⟨w1.heap.size + 1, 0, none⟩) 1 1] 26)
  rw [s2] at this
  exact this
 have hbW : Below w1.heap.size w1 (((w1.alloc (.cells #[.string oneF.f0, .slice A1 oneF.f1.length c1, .string oneF.f2, .slice A3 oneF.f3.length c3, .slice A4 oneF.f4.length c4, .slice A5 oneF.f5.length c5] 40)).alloc (.cells #[.string oneF.f0, .slice A1 oneF.f1.length c1, .string oneF.f2, .slice A3 oneF.f3.length c3, .slice A4 oneF.f4.length c4, .slice A5 oneF.f5.length c5] 40)).alloc (.cells #[.slice none 0 0, .slice none 0 0, .slice (some ⟨w1.heap.size + 1, 0, none⟩) 1 1] 26)) := below_alloc (below_alloc (below_alloc (Below.refl _ _) _) _) _
 generalize (((w1.alloc (.cells #[.string oneF.f0, .slice A1 oneF.f1.length c1, .string oneF.f2, .slice A3 oneF.f3.length c3, .slice A4 oneF.f4.length c4, .slice A5 oneF.f5.length c5] 40)).alloc (.cells #[.string oneF.f0, .slice A1 oneF.f1.length c1, .string oneF.f2, .slice A3 oneF.f3.length c3, .slice A4 oneF.f4.length c4, .slice A5 oneF.f5.length c5] 40)).alloc (.cells #[.slice none 0 0, .slice none 0 0, .slice (some ⟨w1.heap.size + 1, 0, none⟩) 1 1] 26)) = W2 at q1 q2 q3 hbW ⊢
 clear s1 s2
 have g1 := Kd.C_below HV1.out.2 hbW
 have g3 := Kd.C_below HV3.out.2 hbW
 have g4 := Kd.C_below HV4.out.2 hbW
 have g5 := Kd.C_below HV5.out.2 hbW
 have hC := C_one q2 (x := oneF) (k40_mk W2 oneF HV1.out.1 g1 HV3.out.1 g3 HV4.out.1 g4 HV5.out.1 g5)
 have L1 := Aside0.mk HV1.out.1; have L3 := Aside0.mk HV3.out.1; have L4 := Aside0.mk HV4.out.1; have L5 := Aside0.mk HV5.out.1
 have G1 := Aside0.mk g1; have G3 := Aside0.mk g3; have G4 := Aside0.mk g4; have G5 := Aside0.mk g5
 have HC := Aside0.mk hC; have Q1 := Aside0.mk q1; have Q3 := Aside0.mk q3
 have HB2 := Aside0.mk (below_step HB1.out hbW)
 have HG2 := Aside0.mk (HG.out.below HB2.out)
 clear g1 g3 g4 g5 hC q1 q2 q3 hbW HV1 HV3 HV4 HV5 HB1 HG
 generalize w1.heap.size = b1 at *
 clear w1
 have a0 := blk_cell Q1.out 0; have a1 := blk_cell Q1.out 1; have a2 := blk_cell Q1.out 2; have a3 := blk_cell Q1.out 3; have a4 := blk_cell Q1.out 4; have a5 := blk_cell Q1.out 5
 have p0 := blk_cell Q3.out 0; have p1 := blk_cell Q3.out 1; have p2 := blk_cell Q3.out 2
 go_wp2_with fail
 have hN0 := (Kd.R_reads' (Kd.R_nil k58 0 W2 0 (fun _ => True))).2.2
 have hN1 := (Kd.R_reads' (Kd.R_nil k61 0 W2 0 (fun _ => True))).2.2
 refine (ir_Lines.calls 60 none 0 [] none 0 [] (some ⟨b1 + 1, 0, none⟩) 1 [oneF] oneLines W2 hN0 (Nat.le_refl _) hN1 (Nat.le_refl _) HC.out (Nat.le_refl _) one_lines HG2.out).mono ?_
 rintro e w3 ⟨vl, rfl, hRl, hb3⟩
 obtain ⟨gl, cl, hvl, -⟩ := Kd.R_form hRl (by rw [lines_len]; decide)
 rw [lines_len] at hvl
 subst hvl
 have HB3 := Aside0.mk hb3; have HRL := Aside0.mk (Kd.R_mono (Kd.R_bound hRl) (fun k hk => (⟨hk.2.1, hk.2.2.1⟩ : W2.heap.size ≤ k ∧ k < w3.heap.size)))
 clear hRl hb3 hN0 hN1 a0 a1 a2 a3 a4 a5 p0 p1 p2
 have a0 := blk_cell (blk_below Q1.out HB3.out) 0; have a1 := blk_cell (blk_below Q1.out HB3.out) 1; have a2 := blk_cell (blk_below Q1.out HB3.out) 2; have a3 := blk_cell (blk_below Q1.out HB3.out) 3; have a4 := blk_cell (blk_below Q1.out HB3.out) 4; have a5 := blk_cell (blk_below Q1.out HB3.out) 5
 go_wp2_with fail
 refine (ir_Uses.calls oneF.f0 A1 c1 oneF.f1 oneF.f2 A3 c3 oneF.f3 A4 c4 oneF.f4 A5 c5 oneF.f5 0 [2] w3 (Kd.C_below G1.out HB3.out) L1.out (Kd.C_below G3.out HB3.out) L3.out (Kd.C_below G4.out HB3.out) L4.out (Kd.C_below G5.out HB3.out) L5.out one_uses).mono ?_
 rintro e w4 ⟨vu, rfl, hRu, hb4⟩
 obtain ⟨gu, cu, rfl, -⟩ := Kd.R_form hRu (by decide)
 have HB4 := Aside0.mk (below_step HB3.out hb4)
 have HS34 := Aside0.mk hb4.size
 have HRU := Aside0.mk (Kd.R_mono (Kd.R_bound hRu) (fun k hk => (⟨hk.2.1, hk.2.2.1⟩ : w3.heap.size ≤ k ∧ k < w4.heap.size)))
 have HRL4 := Aside0.mk (Kd.R_below HRL.out hb4)
 clear hRu hb4 a0 a1 a2 a3 a4 a5 HRL
 have p0 := blk_cell (blk_below Q3.out HB4.out) 0; have p1 := blk_cell (blk_below Q3.out HB4.out) 1; have p2 := blk_cell (blk_below Q3.out HB4.out) 2
 go_wp2_with fail
 have hN0 := (Kd.R_reads' (Kd.R_nil k58 0 w4 0 (fun _ => True))).2.2
 have hN1 := (Kd.R_reads' (Kd.R_nil k61 0 w4 0 (fun _ => True))).2.2
 refine (ir_Clone.calls 60 none 0 [] none 0 [] (some ⟨b1 + 1, 0, none⟩) 1 [oneF] [] [] [oneF] w4 hN0 (Nat.le_refl _) hN1 (Nat.le_refl _) (Kd.C_below HC.out HB4.out) (Nat.le_refl _) one_clone).mono ?_
 rintro e w5 ⟨v0, v1, v2, rfl, hS0, hR1, hR2, hb5⟩
 obtain ⟨S0, e0, rfl⟩ := Kd.S_slice hS0
 obtain ⟨S1, e1, rfl⟩ := Kd.R_slice hR1
 obtain ⟨g2, cap2, rfl, hg2, hlt2, cells2, hblk2⟩ := Kd.R_form hR2 (by decide)
 have HB5 := Aside0.mk (below_step HB4.out hb5)
 have HRL5 := Aside0.mk (Kd.R_below HRL4.out hb5)
 have HRU5 := Aside0.mk (Kd.R_below HRU.out hb5)
 have HS0 := Aside0.mk (Kd.S_reads' hS0).2.2
 have HS1 := Aside0.mk (Kd.R_reads' hR1).2.2
 have HR2 := Aside0.mk hR2
 have HCAP0 := Aside0.mk (Kd.R_reads' hR2).2.1
 clear hS0 hR1 hR2 hb5 hg2 hlt2 hblk2 hN0 hN1 p0 p1 p2 HRL4 HRU
 go_upto_region 6 with fail
 have q6 := blk_new w5 (.cells #[.slice S0 0 e0, .slice S1 0 e1, .slice (some ⟨g2, 0, none⟩) 1 cap2] 26)
 have r6 := Kd.R_alloc HR2.out (.cells #[.slice S0 0 e0, .slice S1 0 e1, .slice (some ⟨g2, 0, none⟩) 1 cap2] 26)
 have hB6 := below_alloc HB5.out (.cells #[.slice S0 0 e0, .slice S1 0 e1, .slice (some ⟨g2, 0, none⟩) 1 cap2] 26)
 have HRL6 := Aside0.mk (Kd.R_alloc HRL5.out (.cells #[.slice S0 0 e0, .slice S1 0 e1, .slice (some ⟨g2, 0, none⟩) 1 cap2] 26))
 have HRU6 := Aside0.mk (Kd.R_alloc HRU5.out (.cells #[.slice S0 0 e0, .slice S1 0 e1, .slice (some ⟨g2, 0, none⟩) 1 cap2] 26))
 have HS06 := Aside0.mk (Kd.C_alloc HS0.out (.cells #[.slice S0 0 e0, .slice S1 0 e1, .slice (some ⟨g2, 0, none⟩) 1 cap2] 26))
 have HS16 := Aside0.mk (Kd.C_alloc HS1.out (.cells #[.slice S0 0 e0, .slice S1 0 e1, .slice (some ⟨g2, 0, none⟩) 1 cap2] 26))
 have hlt5 : ∀ k, k < w5.heap.size → k < (w5.alloc (.cells #[.slice S0 0 e0, .slice S1 0 e1, .slice (some ⟨g2, 0, none⟩) 1 cap2] 26)).heap.size := fun k hk => by rw [World.size_alloc]; omega
 generalize w5.alloc (.cells #[.slice S0 0 e0, .slice S1 0 e1, .slice (some ⟨g2, 0, none⟩) 1 cap2] 26) = W6 at q6 r6 hB6 HRL6 HRU6 HS06 HS16 hlt5 ⊢
 generalize w5.heap.size = b5 at *
 obtain ⟨cF, hclF, hMF, hccF, hfrF⟩ := Kd.R_elem r6 z40 0 (by decide) (by decide)
 obtain ⟨q1, q3, q4, q5, rfl, hq1, hq3, hq4, hq5⟩ := k40_openM hMF
 obtain ⟨g4, cap4, rfl, hg4, hlt4, cells4, hblk4⟩ := Kd.R_form hq4 (by decide)
 obtain ⟨cI, hclI, hMI, hccI, hfrI⟩ := Kd.R_elem hq4 z47 2 (by decide) (by decide)
 obtain ⟨qa, rfl, hqa⟩ := k47_openM hMI
 obtain ⟨ga, capa, rfl, hga, hlta, cellsa, hblka⟩ := Kd.R_form hqa (by decide)
 obtain ⟨hxa, hfa⟩ := Kd.R_celln 0 hqa 0 (by decide) (by decide)
 have hx4 : W6.cell? ⟨g2, 4, none⟩ = some (.slice (some ⟨g4, 0, none⟩) 3 cap4) := hccF 4 _ rfl
 have hx12 : W6.cell? ⟨g4, 12, none⟩ = some (.slice (some ⟨ga, 0, none⟩) 2 capa) := hccI 2 _ rfl
 have hxa0 : W6.cell? ⟨ga, 0, none⟩ = some (.int .i64 0) := hxa
 have hfa0 : W6.frozen? ⟨ga, 0, none⟩ = false := hfa
 have HCQ := Aside0.mk (Kd.R_reads' r6).2.2
 have Q6 := Aside0.mk q6; have HB6 := Aside0.mk hB6
 have HGA := Aside0.mk hga
 have hty : 3 ≠ 26 := by decide
 have hne5 : ga ≠ b5 := fun e => by
  rw [e, q6] at hblka
  injection hblka with hblka
  injection hblka with _ h2 _
  exact absurd h2 (by decide)
 have HN5 := Aside0.mk hne5
 have p0 := blk_cell q6 0; have p1 := blk_cell q6 1; have p2 := blk_cell q6 2
 clear hMF hccF hfrF hq1 hq3 hq4 hq5 hg4 hlt4 hblk4 hMI hccI hfrI hqa hga hlta hblka hxa hfa hclF hclI HRL5 HRU5 HR2 HS0 HS1 q6 r6 hB6 hty hne5 hlt5
 go_wp2_with fail
 have hga := HGA.out
 have hbase : W2.heap.size ≤ ga := Nat.le_trans HB4.out.size hga
 have hB7 := below_set (j := 0) (v := .int .i64 1) HB6.out hbase
 have hL7 := Kd.R_far (p := ⟨ga, 0, none⟩) HRL6.out (fun k hk e => by have h1 := hk.2; have h2 := HS34.out; have h3 : k = ga := e; omega) (.int .i64 1)
 have hU7 := Kd.R_far (p := ⟨ga, 0, none⟩) HRU6.out (fun k hk e => by have h1 := hk.2; have h3 : k = ga := e; omega) (.int .i64 1)
 obtain ⟨xs', hQ7⟩ := funs_after (v := 1) hxa0 HCQ.out
 have hq7 : (W6.setCell ⟨ga, 0, none⟩ (.int .i64 1)).heap[b5]? = _ := (Below.heap_setCell W6 ⟨ga, 0, none⟩ (.int .i64 1) b5 (Ne.symm HN5.out)).trans Q6.out
 have y4 := cell_kept (v := 1) hxa0 (fun y e => by cases e) hx4
 have y12 := cell_kept (v := 1) hxa0 (fun y e => by cases e) hx12
 have ya : (W6.setCell ⟨ga, 0, none⟩ (.int .i64 1)).cell? ⟨ga, 0, none⟩ = some (.int .i64 1) := World.cell?_setCell_same W6 _ _ hxa0
 have hS07 : k58.C (W6.setCell ⟨ga, 0, none⟩ (.int .i64 1)) S0 0 [] := ⟨rfl, HS06.out.2.1, fun h => absurd h (by decide)⟩
 have hS17 : k61.C (W6.setCell ⟨ga, 0, none⟩ (.int .i64 1)) S1 0 [] := ⟨rfl, HS16.out.2.1, fun h => absurd h (by decide)⟩
 clear p0 p1 p2 hx4 hx12 hxa0 hfa0 hga hbase
 generalize W6.setCell ⟨ga, 0, none⟩ (.int .i64 1) = W7 at *
 obtain ⟨x', rfl⟩ : ∃ x', xs' = [x'] := by
  have h := hQ7.1
  match xs', h with
  | [x], _ => exact ⟨x, rfl⟩
 have hxx : x' ≠ oneF := by
  intro e
  obtain ⟨ad, A1', c1', A3', c3', A4', c4', A5', c5', e1, -, -, -, -, f4, -, -, -, -, -, -, k4, -, -⟩ := at_T40 hQ7 0 (by decide) (by decide)
  cases e1
  have f4' : W7.cell? ⟨g2, 4, none⟩ = some (.slice A4' (rd_T40 [x'] 0).f4.length c4') := f4
  rw [y4] at f4'
  injection f4' with f4'
  injection f4' with h1 h2 _
  subst h1
  have e2 : (rd_T40 [x'] 0).f4 = oneF.f4 := by show x'.f4 = _; rw [e]
  rw [e2] at k4
  obtain ⟨ad2, A2', c2', e3, -, -, g2', -, -, -, k2⟩ := at_T47 k4 2 (by decide) (by decide)
  cases e3
  have g2'' : W7.cell? ⟨g4, 12, none⟩ = some (.slice A2' 2 c2') := g2'
  rw [y12] at g2''
  injection g2'' with g2''
  injection g2'' with h1 _ _
  subst h1
  obtain ⟨ad3, e4, hc⟩ := Kd.at_int k2 0 (by decide) (by decide)
  cases e4
  have hc' : W7.cell? ⟨ga, 0, none⟩ = some (.int .i64 0) := hc
  rw [ya] at hc'
  cases hc'
 have HXX := Aside0.mk (one_other x' hxx)
 have HQ7 := Aside0.mk hQ7; have Q7 := Aside0.mk hq7; have HB7 := Aside0.mk hB7
 have HS07 := Aside0.mk hS07; have HS17 := Aside0.mk hS17
 have HL7 := Aside0.mk hL7; have HU7 := Aside0.mk hU7
 have HG7 := Aside0.mk (HG2.out.below HB7.out)
 clear hQ7 hq7 hB7 hS07 hS17 hL7 hU7 y4 y12 ya hxx HCQ HRL6 HRU6 HB6 Q6 HN5 HGA HS06 HS16 HB5 HB3 HB4 HS34
 have HCAP := Aside0.mk (show [x'].length ≤ cap2 from HCAP0.out)
 have CL0 : Aside0 (∀ w', Below W7.heap.size W7 w' → w'.cell? ⟨gl, 0, none⟩ = some (.string ⟨#[102, 117, 110, 99, 32, 102, 32, 105, 110, 116, 32, 105, 110, 116, 32, 45, 62, 32, 105, 110, 116]⟩)) := ⟨fun w' e => by
  have h := (Kd.R_celln ByteArray.empty (Kd.R_below HL7.out e) 0 (by decide) (by decide)).1
  rw [lines_0] at h
  exact h⟩
 have CL5 : Aside0 (∀ w', Below W7.heap.size W7 w' → w'.cell? ⟨gl, 5, none⟩ = some (.string ⟨#[114, 101, 116, 32, 118, 50]⟩)) := ⟨fun w' e => by
  have h := (Kd.R_celln ByteArray.empty (Kd.R_below HL7.out e) 5 (by decide) (by decide)).1
  rw [lines_5] at h
  exact h⟩
 have CU0 : Aside0 (∀ w', Below W7.heap.size W7 w' → w'.cell? ⟨gu, 0, none⟩ = some (.int .i64 2)) := ⟨fun w' e => (Kd.R_celln 0 (Kd.R_below HU7.out e) 0 (by decide) (by decide)).1⟩
 clear HL7 HU7
 refine start_ (n := 66) (S := fun w' => Below W7.heap.size W7 w') (ds := []) (tf 0 66) (by kernel_rfl) rfl rfl ((below_drew1 (Below.refl _ _))) (fun hHeld => ?_)
 refine with_tabW truantlaw08_awake.tab9 truantlaw08_awake.bits9 (fun HT_ HW_ => ?_)
 refine take_ (i := 0) (N := some 50) (v := ?_) (a' := ?_) (tf 1 65) rfl rfl (take_ofW HT_.out HW_.out (by kernel_rfl)) (fun _ _ _ h => h) (Or.inl ⟨by rfl, ?_⟩) hHeld ?_ ?_
 rotate_left
 ·intro w' s0
  have x0 := blk_cell (blk_below (blk_below Q1.out HB7.out) s0) 0
  have x1 := blk_cell (blk_below (blk_below Q1.out HB7.out) s0) 1
  have x2 := blk_cell (blk_below (blk_below Q1.out HB7.out) s0) 2
  have x3 := blk_cell (blk_below (blk_below Q1.out HB7.out) s0) 3
  have x4 := blk_cell (blk_below (blk_below Q1.out HB7.out) s0) 4
  have x5 := blk_cell (blk_below (blk_below Q1.out HB7.out) s0) 5
  go_simp
  with_reducible rfl
 rotate_left
 ·simp only [Act.put, List.setIfInBounds_toArray, List.set_cons_zero, List.set_cons_succ, i64_w, i32_w]
  rfl
 refine one_ (i := 1) (N := some 51) (tf 2 64) rfl rfl (one_of HT_.out (by kernel_rfl)) (by decide) (fun K hK => ?_)
 refine goes_ Tryd.func25 (by kernel_rfl) rfl #[.agg #[.string oneF.f0, .slice A1 oneF.f1.length c1, .string oneF.f2, .slice A3 oneF.f3.length c3, .slice A4 oneF.f4.length c4, .slice A5 oneF.f5.length c5], .int .i64 2] (by rfl) rfl rfl (bq76) ?_
 refine (ir_Line.calls 60 _ _ _ oneF.f1 _ _ _ oneF.f3 _ _ oneF.f4 _ _ oneF.f5 2 _ _ (Kd.C_below G1.out (below_step HB7.out hHeld)) L1.out (Kd.C_below G3.out (below_step HB7.out hHeld)) L3.out (Kd.C_below G4.out (below_step HB7.out hHeld)) L4.out (Kd.C_below G5.out (below_step HB7.out hHeld)) L5.out one_line (HG7.out.below hHeld)).mono ?_
 rintro e w901 ⟨rfl, hb⟩
 refine ⟨_, rfl, ?_⟩
 refine hK.out _ _ (below_step hHeld hb) (fun hHeld => ?_)
 clear hK K
 refine norm_ (a' := ?_) ?_ ?_
 rotate_left
 ·show Act.put _ (some 51) _ = _
  simp only [Act.put, List.setIfInBounds_toArray, List.set_cons_zero, List.set_cons_succ, i64_w, i32_w]
  rfl
 refine pure_ (i := 2) (N := some 52) (v := ?_) (a' := ?_) (tf 3 63) rfl rfl (any_of HT_.out (by kernel_rfl)) (fun _ _ _ h => h) (Or.inl ⟨by rfl, ?_⟩) ?_ ?_
 rotate_left
 ·intro w'
  go_simp
  with_reducible rfl
 rotate_left
 ·simp only [Act.put, List.setIfInBounds_toArray, List.set_cons_zero, List.set_cons_succ, i64_w, i32_w]
  rfl
 refine pure_ (i := 3) (N := some 53) (v := ?_) (a' := ?_) (tf 4 62) rfl rfl (any_of HT_.out (by kernel_rfl)) (fun _ _ _ h => h) (Or.inl ⟨by rfl, ?_⟩) ?_ ?_
 rotate_left
 ·intro w'
  go_simp
  with_reducible rfl
 rotate_left
 ·simp only [Act.put, List.setIfInBounds_toArray, List.set_cons_zero, List.set_cons_succ, i64_w, i32_w]
  rfl
 refine pure_ (i := 4) (N := some 54) (v := ?_) (a' := ?_) (tf 5 61) rfl rfl (any_of HT_.out (by kernel_rfl)) (fun _ _ _ h => h) (Or.inl ⟨by rfl, ?_⟩) ?_ ?_
 rotate_left
 ·intro w'
  go_simp
  with_reducible rfl
 rotate_left
 ·simp only [Act.put, List.setIfInBounds_toArray, List.set_cons_zero, List.set_cons_succ, i64_w, i32_w]
  rfl
 refine pure_ (i := 5) (N := some 55) (v := ?_) (a' := ?_) (tf 6 60) rfl rfl (any_of HT_.out (by kernel_rfl)) (fun _ _ _ h => h) (Or.inl ⟨by rfl, ?_⟩) ?_ ?_
 rotate_left
 ·intro w'
  go_simp
  with_reducible rfl
 rotate_left
 ·simp only [Act.put, List.setIfInBounds_toArray, List.set_cons_zero, List.set_cons_succ, i64_w, i32_w]
  rfl
 refine pure_ (i := 6) (N := some 56) (v := ?_) (a' := ?_) (tf 7 59) rfl rfl (any_of HT_.out (by kernel_rfl)) (fun _ _ _ h => h) (Or.inl ⟨by rfl, ?_⟩) ?_ ?_
 rotate_left
 ·intro w'
  go_simp
  with_reducible rfl
 rotate_left
 ·simp only [Act.put, List.setIfInBounds_toArray, List.set_cons_zero, List.set_cons_succ, i64_w, i32_w]
  rfl
 refine pure_ (i := 7) (N := some 57) (v := ?_) (a' := ?_) (tf 8 58) rfl rfl (any_of HT_.out (by kernel_rfl)) (fun _ _ _ h => h) (Or.inl ⟨by rfl, ?_⟩) ?_ ?_
 rotate_left
 ·intro w'
  go_simp
  with_reducible rfl
 rotate_left
 ·simp only [Act.put, List.setIfInBounds_toArray, List.set_cons_zero, List.set_cons_succ, i64_w, i32_w]
  rfl
 refine pure_ (i := 8) (N := some 58) (v := ?_) (a' := ?_) (tf 9 57) rfl rfl (any_of HT_.out (by kernel_rfl)) (fun _ _ _ h => h) (Or.inl ⟨by rfl, ?_⟩) ?_ ?_
 rotate_left
 ·intro w'
  go_simp
  with_reducible rfl
 rotate_left
 ·simp only [Act.put, List.setIfInBounds_toArray, List.set_cons_zero, List.set_cons_succ, i64_w, i32_w]
  rfl
 refine pure_ (i := 9) (N := some 59) (v := ?_) (a' := ?_) (tf 10 56) rfl rfl (any_of HT_.out (by kernel_rfl)) (fun _ _ _ h => h) (Or.inl ⟨by rfl, ?_⟩) ?_ ?_
 rotate_left
 ·intro w'
  go_simp
  with_reducible rfl
 rotate_left
 ·simp only [Act.put, List.setIfInBounds_toArray, List.set_cons_zero, List.set_cons_succ, i64_w, i32_w]
  rfl
 refine pure_ (i := 10) (N := some 60) (v := ?_) (a' := ?_) (tf 11 55) rfl rfl (any_of HT_.out (by kernel_rfl)) (fun _ _ _ h => h) (Or.inl ⟨by rfl, ?_⟩) ?_ ?_
 rotate_left
 ·intro w'
  go_simp
  with_reducible rfl
 rotate_left
 ·simp only [Act.put, List.setIfInBounds_toArray, List.set_cons_zero, List.set_cons_succ, i64_w, i32_w]
  rfl
 refine take_ (i := 11) (N := some 61) (v := ?_) (a' := ?_) (tf 12 54) rfl rfl (take_ofW HT_.out HW_.out (by kernel_rfl)) (fun _ _ _ h => h) (Or.inl ⟨by rfl, ?_⟩) hHeld ?_ ?_
 rotate_left
 ·intro w' s0
  have x0 := (CL0.out w' s0)
  go_simp
  with_reducible rfl
 rotate_left
 ·simp only [Act.put, List.setIfInBounds_toArray, List.set_cons_zero, List.set_cons_succ, i64_w, i32_w]
  rfl
 refine pure_ (i := 12) (N := some 62) (v := ?_) (a' := ?_) (tf 13 53) rfl rfl (any_of HT_.out (by kernel_rfl)) (fun _ _ _ h => h) (Or.inl ⟨by rfl, ?_⟩) ?_ ?_
 rotate_left
 ·intro w'
  go_simp
  with_reducible rfl
 rotate_left
 ·simp only [Act.put, List.setIfInBounds_toArray, List.set_cons_zero, List.set_cons_succ, i64_w, i32_w]
  rfl
 refine pure_ (i := 13) (N := some 63) (v := ?_) (a' := ?_) (tf 14 52) rfl rfl (any_of HT_.out (by kernel_rfl)) (fun _ _ _ h => h) (Or.inl ⟨by rfl, ?_⟩) ?_ ?_
 rotate_left
 ·intro w'
  go_simp
  with_reducible rfl
 rotate_left
 ·simp only [Act.put, List.setIfInBounds_toArray, List.set_cons_zero, List.set_cons_succ, i64_w, i32_w]
  rfl
 refine pure_ (i := 14) (N := some 64) (v := ?_) (a' := ?_) (tf 15 51) rfl rfl (any_of HT_.out (by kernel_rfl)) (fun _ _ _ h => h) (Or.inl ⟨by rfl, ?_⟩) ?_ ?_
 rotate_left
 ·intro w'
  go_simp
  with_reducible rfl
 rotate_left
 ·simp only [Act.put, List.setIfInBounds_toArray, List.set_cons_zero, List.set_cons_succ, i64_w, i32_w]
  rfl
 refine pure_ (i := 15) (N := some 65) (v := ?_) (a' := ?_) (tf 16 50) rfl rfl (any_of HT_.out (by kernel_rfl)) (fun _ _ _ h => h) (Or.inl ⟨by rfl, ?_⟩) ?_ ?_
 rotate_left
 ·intro w'
  go_simp
  with_reducible rfl
 rotate_left
 ·simp only [Act.put, List.setIfInBounds_toArray, List.set_cons_zero, List.set_cons_succ, i64_w, i32_w]
  rfl
 refine pure_ (i := 16) (N := some 66) (v := ?_) (a' := ?_) (tf 17 49) rfl rfl (any_of HT_.out (by kernel_rfl)) (fun _ _ _ h => h) (Or.inl ⟨by rfl, ?_⟩) ?_ ?_
 rotate_left
 ·intro w'
  go_simp
  with_reducible rfl
 rotate_left
 ·simp only [Act.put, List.setIfInBounds_toArray, List.set_cons_zero, List.set_cons_succ, i64_w, i32_w]
  rfl
 refine take_ (i := 17) (N := some 67) (v := ?_) (a' := ?_) (tf 18 48) rfl rfl (take_ofW HT_.out HW_.out (by kernel_rfl)) (fun _ _ _ h => h) (Or.inl ⟨by rfl, ?_⟩) hHeld ?_ ?_
 rotate_left
 ·intro w' s0
  have x0 := (CL5.out w' s0)
  go_simp
  with_reducible rfl
 rotate_left
 ·simp only [Act.put, List.setIfInBounds_toArray, List.set_cons_zero, List.set_cons_succ, i64_w, i32_w]
  rfl
 refine pure_ (i := 18) (N := some 68) (v := ?_) (a' := ?_) (tf 19 47) rfl rfl (any_of HT_.out (by kernel_rfl)) (fun _ _ _ h => h) (Or.inl ⟨by rfl, ?_⟩) ?_ ?_
 rotate_left
 ·intro w'
  go_simp
  with_reducible rfl
 rotate_left
 ·simp only [Act.put, List.setIfInBounds_toArray, List.set_cons_zero, List.set_cons_succ, i64_w, i32_w]
  rfl
 refine pure_ (i := 19) (N := some 69) (v := ?_) (a' := ?_) (tf 20 46) rfl rfl (any_of HT_.out (by kernel_rfl)) (fun _ _ _ h => h) (Or.inl ⟨by rfl, ?_⟩) ?_ ?_
 rotate_left
 ·intro w'
  go_simp
  with_reducible rfl
 rotate_left
 ·simp only [Act.put, List.setIfInBounds_toArray, List.set_cons_zero, List.set_cons_succ, i64_w, i32_w]
  rfl
 refine pure_ (i := 20) (N := some 70) (v := ?_) (a' := ?_) (tf 21 45) rfl rfl (any_of HT_.out (by kernel_rfl)) (fun _ _ _ h => h) (Or.inl ⟨by rfl, ?_⟩) ?_ ?_
 rotate_left
 ·intro w'
  go_simp
  with_reducible rfl
 rotate_left
 ·simp only [Act.put, List.setIfInBounds_toArray, List.set_cons_zero, List.set_cons_succ, i64_w, i32_w]
  rfl
 refine pure_ (i := 21) (N := some 71) (v := ?_) (a' := ?_) (tf 22 44) rfl rfl (any_of HT_.out (by kernel_rfl)) (fun _ _ _ h => h) (Or.inl ⟨by rfl, ?_⟩) ?_ ?_
 rotate_left
 ·intro w'
  go_simp
  with_reducible rfl
 rotate_left
 ·simp only [Act.put, List.setIfInBounds_toArray, List.set_cons_zero, List.set_cons_succ, i64_w, i32_w]
  rfl
 refine pure_ (i := 22) (N := some 72) (v := ?_) (a' := ?_) (tf 23 43) rfl rfl (any_of HT_.out (by kernel_rfl)) (fun _ _ _ h => h) (Or.inl ⟨by rfl, ?_⟩) ?_ ?_
 rotate_left
 ·intro w'
  go_simp
  with_reducible rfl
 rotate_left
 ·simp only [Act.put, List.setIfInBounds_toArray, List.set_cons_zero, List.set_cons_succ, i64_w, i32_w]
  rfl
 refine pure_ (i := 23) (N := some 73) (v := ?_) (a' := ?_) (tf 24 42) rfl rfl (any_of HT_.out (by kernel_rfl)) (fun _ _ _ h => h) (Or.inl ⟨by rfl, ?_⟩) ?_ ?_
 rotate_left
 ·intro w'
  go_simp
  with_reducible rfl
 rotate_left
 ·simp only [Act.put, List.setIfInBounds_toArray, List.set_cons_zero, List.set_cons_succ, i64_w, i32_w]
  rfl
 refine pure_ (i := 24) (N := some 74) (v := ?_) (a' := ?_) (tf 25 41) rfl rfl (any_of HT_.out (by kernel_rfl)) (fun _ _ _ h => h) (Or.inl ⟨by rfl, ?_⟩) ?_ ?_
 rotate_left
 ·intro w'
  go_simp
  with_reducible rfl
 rotate_left
 ·simp only [Act.put, List.setIfInBounds_toArray, List.set_cons_zero, List.set_cons_succ, i64_w, i32_w]
  rfl
 refine pure_ (i := 25) (N := some 75) (v := ?_) (a' := ?_) (tf 26 40) rfl rfl (any_of HT_.out (by kernel_rfl)) (fun _ _ _ h => h) (Or.inl ⟨by rfl, ?_⟩) ?_ ?_
 rotate_left
 ·intro w'
  go_simp
  with_reducible rfl
 rotate_left
 ·simp only [Act.put, List.setIfInBounds_toArray, List.set_cons_zero, List.set_cons_succ, i64_w, i32_w]
  rfl
 refine pure_ (i := 26) (N := some 76) (v := ?_) (a' := ?_) (tf 27 39) rfl rfl (any_of HT_.out (by kernel_rfl)) (fun _ _ _ h => h) (Or.inl ⟨by rfl, ?_⟩) ?_ ?_
 rotate_left
 ·intro w'
  go_simp
  with_reducible rfl
 rotate_left
 ·simp only [Act.put, List.setIfInBounds_toArray, List.set_cons_zero, List.set_cons_succ, i64_w, i32_w]
  rfl
 refine pure_ (i := 27) (N := some 77) (v := ?_) (a' := ?_) (tf 28 38) rfl rfl (any_of HT_.out (by kernel_rfl)) (fun _ _ _ h => h) (Or.inl ⟨by rfl, ?_⟩) ?_ ?_
 rotate_left
 ·intro w'
  go_simp
  with_reducible rfl
 rotate_left
 ·simp only [Act.put, List.setIfInBounds_toArray, List.set_cons_zero, List.set_cons_succ, i64_w, i32_w]
  rfl
 refine take_ (i := 28) (N := some 78) (v := ?_) (a' := ?_) (tf 29 37) rfl rfl (take_ofW HT_.out HW_.out (by kernel_rfl)) (fun _ _ _ h => h) (Or.inl ⟨by rfl, ?_⟩) hHeld ?_ ?_
 rotate_left
 ·intro w' s0
  have x0 := (CU0.out w' s0)
  go_simp
  with_reducible rfl
 rotate_left
 ·simp only [Act.put, List.setIfInBounds_toArray, List.set_cons_zero, List.set_cons_succ, i64_w, i32_w]
  rfl
 refine pure_ (i := 29) (N := some 79) (v := ?_) (a' := ?_) (tf 30 36) rfl rfl (any_of HT_.out (by kernel_rfl)) (fun _ _ _ h => h) (Or.inl ⟨by rfl, ?_⟩) ?_ ?_
 rotate_left
 ·intro w'
  go_simp
  with_reducible rfl
 rotate_left
 ·simp only [Act.put, List.setIfInBounds_toArray, List.set_cons_zero, List.set_cons_succ, i64_w, i32_w]
  rfl
 refine pure_ (i := 30) (N := some 80) (v := ?_) (a' := ?_) (tf 31 35) rfl rfl (any_of HT_.out (by kernel_rfl)) (fun _ _ _ h => h) (Or.inl ⟨by rfl, ?_⟩) ?_ ?_
 rotate_left
 ·intro w'
  go_simp
  with_reducible rfl
 rotate_left
 ·simp only [Act.put, List.setIfInBounds_toArray, List.set_cons_zero, List.set_cons_succ, i64_w, i32_w]
  rfl
 refine pure_ (i := 31) (N := some 81) (v := ?_) (a' := ?_) (tf 32 34) rfl rfl (any_of HT_.out (by kernel_rfl)) (fun _ _ _ h => h) (Or.inl ⟨by rfl, ?_⟩) ?_ ?_
 rotate_left
 ·intro w'
  go_simp
  with_reducible rfl
 rotate_left
 ·simp only [Act.put, List.setIfInBounds_toArray, List.set_cons_zero, List.set_cons_succ, i64_w, i32_w]
  rfl
 refine take_ (i := 32) (N := some 82) (v := ?_) (a' := ?_) (tf 33 33) rfl rfl (take_ofW HT_.out HW_.out (by kernel_rfl)) (fun _ _ _ h => h) (Or.inl ⟨by rfl, ?_⟩) hHeld ?_ ?_
 rotate_left
 ·intro w' s0
  have x0 := blk_cell (blk_below (blk_below Q3.out HB7.out) s0) 0
  have x1 := blk_cell (blk_below (blk_below Q3.out HB7.out) s0) 1
  have x2 := blk_cell (blk_below (blk_below Q3.out HB7.out) s0) 2
  go_simp
  with_reducible rfl
 rotate_left
 ·simp only [Act.put, List.setIfInBounds_toArray, List.set_cons_zero, List.set_cons_succ, i64_w, i32_w]
  rfl
 refine take_ (i := 33) (N := some 83) (v := ?_) (a' := ?_) (tf 34 32) rfl rfl (take_ofW HT_.out HW_.out (by kernel_rfl)) (fun _ _ _ h => h) (Or.inl ⟨by rfl, ?_⟩) hHeld ?_ ?_
 rotate_left
 ·intro w' s0
  have x0 := blk_cell (blk_below Q7.out s0) 0
  have x1 := blk_cell (blk_below Q7.out s0) 1
  have x2 := blk_cell (blk_below Q7.out s0) 2
  go_simp
  with_reducible rfl
 rotate_left
 ·simp only [Act.put, List.setIfInBounds_toArray, List.set_cons_zero, List.set_cons_succ, i64_w, i32_w]
  rfl
 refine one_ (i := 34) (N := some 84) (tf 35 31) rfl rfl (one_of HT_.out (by kernel_rfl)) (by decide) (fun K hK => ?_)
 refine goes_ Tryd.func13 (by kernel_rfl) rfl #[.agg #[.slice none 0 0, .slice none 0 0, .slice (some ⟨b1 + 1, 0, none⟩) 1 1], .agg #[.slice S0 0 e0, .slice S1 0 e1, .slice (some ⟨g2, 0, none⟩) 1 cap2]] (by rfl) rfl rfl (bq76) ?_
 refine (ir_Same.calls 60 none 0 [] none 0 [] (some ⟨b1 + 1, 0, none⟩) 1 [oneF] S0 e0 [] S1 e1 [] (some ⟨g2, 0, none⟩) cap2 [x'] false _ (Kd.R_reads' (Kd.R_nil k58 0 _ 0 (fun _ => True))).2.2 (Nat.le_refl _) (Kd.R_reads' (Kd.R_nil k61 0 _ 0 (fun _ => True))).2.2 (Nat.le_refl _) (Kd.C_below HC.out (below_step HB7.out hHeld)) (Nat.le_refl _) (Kd.C_below HS07.out hHeld) (Nat.zero_le _) (Kd.C_below HS17.out hHeld) (Nat.zero_le _) (Kd.C_below HQ7.out hHeld) HCAP.out HXX.out).mono ?_
 rintro e w934 ⟨rfl, hb⟩
 refine ⟨_, rfl, ?_⟩
 refine hK.out _ _ (below_step hHeld hb) (fun hHeld => ?_)
 clear hK K
 refine norm_ (a' := ?_) ?_ ?_
 rotate_left
 ·show Act.put _ (some 84) _ = _
  simp only [Act.put, List.setIfInBounds_toArray, List.set_cons_zero, List.set_cons_succ, i64_w, i32_w]
  rfl
 refine pure_ (i := 35) (N := some 85) (v := ?_) (a' := ?_) (tf 36 30) rfl rfl (any_of HT_.out (by kernel_rfl)) (fun _ _ _ h => h) (Or.inl ⟨by rfl, ?_⟩) ?_ ?_
 rotate_left
 ·intro w'
  go_simp
  with_reducible rfl
 rotate_left
 ·simp only [Act.put, List.setIfInBounds_toArray, List.set_cons_zero, List.set_cons_succ, i64_w, i32_w]
  rfl
 refine pure_ (i := 36) (N := some 86) (v := ?_) (a' := ?_) (tf 37 29) rfl rfl (any_of HT_.out (by kernel_rfl)) (fun _ _ _ h => h) (Or.inl ⟨by rfl, ?_⟩) ?_ ?_
 rotate_left
 ·intro w'
  go_simp
  with_reducible rfl
 rotate_left
 ·simp only [Act.put, List.setIfInBounds_toArray, List.set_cons_zero, List.set_cons_succ, i64_w, i32_w]
  rfl
 refine pure_ (i := 37) (N := some 87) (v := ?_) (a' := ?_) (tf 38 28) rfl rfl (any_of HT_.out (by kernel_rfl)) (fun _ _ _ h => h) (Or.inl ⟨by rfl, ?_⟩) ?_ ?_
 rotate_left
 ·intro w'
  go_simp
  with_reducible rfl
 rotate_left
 ·simp only [Act.put, List.setIfInBounds_toArray, List.set_cons_zero, List.set_cons_succ, i64_w, i32_w]
  rfl
 refine take_ (i := 38) (N := some 88) (v := ?_) (a' := ?_) (tf 39 27) rfl rfl (take_ofW HT_.out HW_.out (by kernel_rfl)) (fun _ _ _ h => h) (Or.inl ⟨by rfl, ?_⟩) hHeld ?_ ?_
 rotate_left
 ·intro w' s0
  have x0 := blk_cell (blk_below (blk_below Q3.out HB7.out) s0) 0
  have x1 := blk_cell (blk_below (blk_below Q3.out HB7.out) s0) 1
  have x2 := blk_cell (blk_below (blk_below Q3.out HB7.out) s0) 2
  go_simp
  with_reducible rfl
 rotate_left
 ·simp only [Act.put, List.setIfInBounds_toArray, List.set_cons_zero, List.set_cons_succ, i64_w, i32_w]
  rfl
 refine take_ (i := 39) (N := some 89) (v := ?_) (a' := ?_) (tf 40 26) rfl rfl (take_ofW HT_.out HW_.out (by kernel_rfl)) (fun _ _ _ h => h) (Or.inl ⟨by rfl, ?_⟩) hHeld ?_ ?_
 rotate_left
 ·intro w' s0
  have x0 := blk_cell (blk_below (blk_below Q3.out HB7.out) s0) 0
  have x1 := blk_cell (blk_below (blk_below Q3.out HB7.out) s0) 1
  have x2 := blk_cell (blk_below (blk_below Q3.out HB7.out) s0) 2
  go_simp
  with_reducible rfl
 rotate_left
 ·simp only [Act.put, List.setIfInBounds_toArray, List.set_cons_zero, List.set_cons_succ, i64_w, i32_w]
  rfl
 refine one_ (i := 40) (N := some 90) (tf 41 25) rfl rfl (one_of HT_.out (by kernel_rfl)) (by decide) (fun K hK => ?_)
 refine goes_ Tryd.func27 (by kernel_rfl) rfl #[.agg #[.slice none 0 0, .slice none 0 0, .slice (some ⟨b1 + 1, 0, none⟩) 1 1]] (by rfl) rfl rfl (bq76) ?_
 refine (ir_Clone.calls 60 none 0 [] none 0 [] (some ⟨b1 + 1, 0, none⟩) 1 [oneF] [] [] [oneF] _ (Kd.R_reads' (Kd.R_nil k58 0 _ 0 (fun _ => True))).2.2 (Nat.le_refl _) (Kd.R_reads' (Kd.R_nil k61 0 _ 0 (fun _ => True))).2.2 (Nat.le_refl _) (Kd.C_below HC.out (below_step HB7.out hHeld)) (Nat.le_refl _) one_clone).mono ?_
 rintro e w940 ⟨v0, v1, v2, rfl, hS0, hR1, hR2, hb⟩
 refine ⟨_, rfl, ?_⟩
 obtain ⟨V0, d0, rfl⟩ := Kd.S_slice hS0
 obtain ⟨V1, d1, rfl⟩ := Kd.R_slice hR1
 obtain ⟨V2, d2, rfl⟩ := Kd.R_slice hR2
 have KS0 := Aside0.mk (Kd.S_reads' hS0).2
 have KS1 := Aside0.mk (Kd.R_reads' hR1).2
 have KS2 := Aside0.mk (Kd.R_reads' hR2).2
 clear hS0 hR1 hR2
 refine hK.out _ _ (below_step hHeld hb) (fun hHeld => ?_)
 clear hK K
 refine norm_ (a' := ?_) ?_ ?_
 rotate_left
 ·show Act.put _ (some 90) _ = _
  simp only [Act.put, List.setIfInBounds_toArray, List.set_cons_zero, List.set_cons_succ, i64_w, i32_w]
  rfl
 refine one_ (i := 41) (N := some 91) (tf 42 24) rfl rfl (one_of HT_.out (by kernel_rfl)) (by decide) (fun K hK => ?_)
 refine goes_ Tryd.func13 (by kernel_rfl) rfl #[.agg #[.slice none 0 0, .slice none 0 0, .slice (some ⟨b1 + 1, 0, none⟩) 1 1], .agg #[.slice V0 0 d0, .slice V1 0 d1, .slice V2 1 d2]] (by rfl) rfl rfl (bq76) ?_
 refine (ir_Same.calls 60 none 0 [] none 0 [] (some ⟨b1 + 1, 0, none⟩) 1 [oneF] V0 d0 [] V1 d1 [] V2 d2 [oneF] true _ (Kd.R_reads' (Kd.R_nil k58 0 _ 0 (fun _ => True))).2.2 (Nat.le_refl _) (Kd.R_reads' (Kd.R_nil k61 0 _ 0 (fun _ => True))).2.2 (Nat.le_refl _) (Kd.C_below HC.out (below_step HB7.out hHeld)) (Nat.le_refl _) KS0.out.2 KS0.out.1 KS1.out.2 KS1.out.1 KS2.out.2 KS2.out.1 one_same).mono ?_
 rintro e w941 ⟨rfl, hb⟩
 refine ⟨_, rfl, ?_⟩
 refine hK.out _ _ (below_step hHeld hb) (fun hHeld => ?_)
 clear hK K
 refine norm_ (a' := ?_) ?_ ?_
 rotate_left
 ·show Act.put _ (some 91) _ = _
  simp only [Act.put, List.setIfInBounds_toArray, List.set_cons_zero, List.set_cons_succ, i64_w, i32_w]
  rfl
 refine pure_ (i := 42) (N := some 92) (v := ?_) (a' := ?_) (tf 43 23) rfl rfl (any_of HT_.out (by kernel_rfl)) (fun _ _ _ h => h) (Or.inl ⟨by rfl, ?_⟩) ?_ ?_
 rotate_left
 ·intro w'
  go_simp
  with_reducible rfl
 rotate_left
 ·simp only [Act.put, List.setIfInBounds_toArray, List.set_cons_zero, List.set_cons_succ, i64_w, i32_w]
  rfl
 refine pure_ (i := 43) (N := some 93) (v := ?_) (a' := ?_) (tf 44 22) rfl rfl (any_of HT_.out (by kernel_rfl)) (fun _ _ _ h => h) (Or.inl ⟨by rfl, ?_⟩) ?_ ?_
 rotate_left
 ·intro w'
  go_simp
  with_reducible rfl
 rotate_left
 ·simp only [Act.put, List.setIfInBounds_toArray, List.set_cons_zero, List.set_cons_succ, i64_w, i32_w]
  rfl
 refine one_ (i := 44) (N := some 94) (tf 45 21) rfl rfl (one_of HT_.out (by kernel_rfl)) (by decide) (fun K hK => ?_)
 refine goes_ Tryd.func16 (by kernel_rfl) rfl #[.int .i64 34] (by rfl) rfl rfl (bq76) ?_
 refine (ir_IsOp.calls 34 true _ (by kernel_rfl)).mono ?_
 rintro e w944 ⟨rfl, hb⟩
 refine ⟨_, rfl, ?_⟩
 refine hK.out _ _ (below_step hHeld hb.below) (fun hHeld => ?_)
 clear hK K
 refine norm_ (a' := ?_) ?_ ?_
 rotate_left
 ·show Act.put _ (some 94) _ = _
  simp only [Act.put, List.setIfInBounds_toArray, List.set_cons_zero, List.set_cons_succ, i64_w, i32_w]
  rfl
 refine pure_ (i := 45) (N := some 95) (v := ?_) (a' := ?_) (tf 46 20) rfl rfl (any_of HT_.out (by kernel_rfl)) (fun _ _ _ h => h) (Or.inl ⟨by rfl, ?_⟩) ?_ ?_
 rotate_left
 ·intro w'
  go_simp
  with_reducible rfl
 rotate_left
 ·simp only [Act.put, List.setIfInBounds_toArray, List.set_cons_zero, List.set_cons_succ, i64_w, i32_w]
  rfl
 refine pure_ (i := 46) (N := some 96) (v := ?_) (a' := ?_) (tf 47 19) rfl rfl (any_of HT_.out (by kernel_rfl)) (fun _ _ _ h => h) (Or.inl ⟨by rfl, ?_⟩) ?_ ?_
 rotate_left
 ·intro w'
  go_simp
  with_reducible rfl
 rotate_left
 ·simp only [Act.put, List.setIfInBounds_toArray, List.set_cons_zero, List.set_cons_succ, i64_w, i32_w]
  rfl
 refine one_ (i := 47) (N := some 97) (tf 48 18) rfl rfl (one_of HT_.out (by kernel_rfl)) (by decide) (fun K hK => ?_)
 refine goes_ Tryd.func16 (by kernel_rfl) rfl #[.int .i64 19] (by rfl) rfl rfl (bq76) ?_
 refine (ir_IsOp.calls 19 false _ (by kernel_rfl)).mono ?_
 rintro e w947 ⟨rfl, hb⟩
 refine ⟨_, rfl, ?_⟩
 refine hK.out _ _ (below_step hHeld hb.below) (fun hHeld => ?_)
 clear hK K
 refine norm_ (a' := ?_) ?_ ?_
 rotate_left
 ·show Act.put _ (some 97) _ = _
  simp only [Act.put, List.setIfInBounds_toArray, List.set_cons_zero, List.set_cons_succ, i64_w, i32_w]
  rfl
 refine pure_ (i := 48) (N := some 98) (v := ?_) (a' := ?_) (tf 49 17) rfl rfl (any_of HT_.out (by kernel_rfl)) (fun _ _ _ h => h) (Or.inl ⟨by rfl, ?_⟩) ?_ ?_
 rotate_left
 ·intro w'
  go_simp
  with_reducible rfl
 rotate_left
 ·simp only [Act.put, List.setIfInBounds_toArray, List.set_cons_zero, List.set_cons_succ, i64_w, i32_w]
  rfl
 refine pure_ (i := 49) (N := some 99) (v := ?_) (a' := ?_) (tf 50 16) rfl rfl (any_of HT_.out (by kernel_rfl)) (fun _ _ _ h => h) (Or.inl ⟨by rfl, ?_⟩) ?_ ?_
 rotate_left
 ·intro w'
  go_simp
  with_reducible rfl
 rotate_left
 ·simp only [Act.put, List.setIfInBounds_toArray, List.set_cons_zero, List.set_cons_succ, i64_w, i32_w]
  rfl
 refine pure_ (i := 50) (N := some 100) (v := ?_) (a' := ?_) (tf 51 15) rfl rfl (any_of HT_.out (by kernel_rfl)) (fun _ _ _ h => h) (Or.inl ⟨by rfl, ?_⟩) ?_ ?_
 rotate_left
 ·intro w'
  go_simp
  with_reducible rfl
 rotate_left
 ·simp only [Act.put, List.setIfInBounds_toArray, List.set_cons_zero, List.set_cons_succ, i64_w, i32_w]
  rfl
 refine one_ (i := 51) (N := some 101) (tf 52 14) rfl rfl (one_of HT_.out (by kernel_rfl)) (by decide) (fun K hK => ?_)
 refine goes_ Tryd.func17 (by kernel_rfl) rfl #[.int .i64 26] (by rfl) rfl rfl (bq76) ?_
 refine (ir_Args.calls 60 26 2 _ one_args).mono ?_
 rintro e w951 ⟨rfl, hb⟩
 refine ⟨_, rfl, ?_⟩
 refine hK.out _ _ (below_step hHeld hb.below) (fun hHeld => ?_)
 clear hK K
 refine norm_ (a' := ?_) ?_ ?_
 rotate_left
 ·show Act.put _ (some 101) _ = _
  simp only [Act.put, List.setIfInBounds_toArray, List.set_cons_zero, List.set_cons_succ, i64_w, i32_w]
  rfl
 refine pure_ (i := 52) (N := some 102) (v := ?_) (a' := ?_) (tf 53 13) rfl rfl (any_of HT_.out (by kernel_rfl)) (fun _ _ _ h => h) (Or.inl ⟨by rfl, ?_⟩) ?_ ?_
 rotate_left
 ·intro w'
  go_simp
  with_reducible rfl
 rotate_left
 ·simp only [Act.put, List.setIfInBounds_toArray, List.set_cons_zero, List.set_cons_succ, i64_w, i32_w]
  rfl
 refine pure_ (i := 53) (N := some 103) (v := ?_) (a' := ?_) (tf 54 12) rfl rfl (any_of HT_.out (by kernel_rfl)) (fun _ _ _ h => h) (Or.inl ⟨by rfl, ?_⟩) ?_ ?_
 rotate_left
 ·intro w'
  go_simp
  with_reducible rfl
 rotate_left
 ·simp only [Act.put, List.setIfInBounds_toArray, List.set_cons_zero, List.set_cons_succ, i64_w, i32_w]
  rfl
 refine pure_ (i := 54) (N := some 104) (v := ?_) (a' := ?_) (tf 55 11) rfl rfl (any_of HT_.out (by kernel_rfl)) (fun _ _ _ h => h) (Or.inl ⟨by rfl, ?_⟩) ?_ ?_
 rotate_left
 ·intro w'
  go_simp
  with_reducible rfl
 rotate_left
 ·simp only [Act.put, List.setIfInBounds_toArray, List.set_cons_zero, List.set_cons_succ, i64_w, i32_w]
  rfl
 refine one_ (i := 55) (N := some 105) (tf 56 10) rfl rfl (one_of HT_.out (by kernel_rfl)) (by decide) (fun K hK => ?_)
 refine goes_ Tryd.func19 (by kernel_rfl) rfl #[.int .i64 1] (by rfl) rfl rfl (bq76) ?_
 refine (ir_IsQuiet.calls 60 1 true _ one_quiet).mono ?_
 rintro e w955 ⟨rfl, hb⟩
 refine ⟨_, rfl, ?_⟩
 refine hK.out _ _ (below_step hHeld hb.below) (fun hHeld => ?_)
 clear hK K
 refine norm_ (a' := ?_) ?_ ?_
 rotate_left
 ·show Act.put _ (some 105) _ = _
  simp only [Act.put, List.setIfInBounds_toArray, List.set_cons_zero, List.set_cons_succ, i64_w, i32_w]
  rfl
 refine pure_ (i := 56) (N := some 106) (v := ?_) (a' := ?_) (tf 57 9) rfl rfl (any_of HT_.out (by kernel_rfl)) (fun _ _ _ h => h) (Or.inl ⟨by rfl, ?_⟩) ?_ ?_
 rotate_left
 ·intro w'
  go_simp
  with_reducible rfl
 rotate_left
 ·simp only [Act.put, List.setIfInBounds_toArray, List.set_cons_zero, List.set_cons_succ, i64_w, i32_w]
  rfl
 refine pure_ (i := 57) (N := some 107) (v := ?_) (a' := ?_) (tf 58 8) rfl rfl (any_of HT_.out (by kernel_rfl)) (fun _ _ _ h => h) (Or.inl ⟨by rfl, ?_⟩) ?_ ?_
 rotate_left
 ·intro w'
  go_simp
  with_reducible rfl
 rotate_left
 ·simp only [Act.put, List.setIfInBounds_toArray, List.set_cons_zero, List.set_cons_succ, i64_w, i32_w]
  rfl
 refine one_ (i := 58) (N := some 108) (tf 59 7) rfl rfl (one_of HT_.out (by kernel_rfl)) (by decide) (fun K hK => ?_)
 refine goes_ Tryd.func19 (by kernel_rfl) rfl #[.int .i64 25] (by rfl) rfl rfl (bq76) ?_
 refine (ir_IsQuiet.calls 60 25 false _ one_loud).mono ?_
 rintro e w958 ⟨rfl, hb⟩
 refine ⟨_, rfl, ?_⟩
 refine hK.out _ _ (below_step hHeld hb.below) (fun hHeld => ?_)
 clear hK K
 refine norm_ (a' := ?_) ?_ ?_
 rotate_left
 ·show Act.put _ (some 108) _ = _
  simp only [Act.put, List.setIfInBounds_toArray, List.set_cons_zero, List.set_cons_succ, i64_w, i32_w]
  rfl
 refine pure_ (i := 59) (N := some 109) (v := ?_) (a' := ?_) (tf 60 6) rfl rfl (any_of HT_.out (by kernel_rfl)) (fun _ _ _ h => h) (Or.inl ⟨by rfl, ?_⟩) ?_ ?_
 rotate_left
 ·intro w'
  go_simp
  with_reducible rfl
 rotate_left
 ·simp only [Act.put, List.setIfInBounds_toArray, List.set_cons_zero, List.set_cons_succ, i64_w, i32_w]
  rfl
 refine pure_ (i := 60) (N := some 110) (v := ?_) (a' := ?_) (tf 61 5) rfl rfl (any_of HT_.out (by kernel_rfl)) (fun _ _ _ h => h) (Or.inl ⟨by rfl, ?_⟩) ?_ ?_
 rotate_left
 ·intro w'
  go_simp
  with_reducible rfl
 rotate_left
 ·simp only [Act.put, List.setIfInBounds_toArray, List.set_cons_zero, List.set_cons_succ, i64_w, i32_w]
  rfl
 refine pure_ (i := 61) (N := some 111) (v := ?_) (a' := ?_) (tf 62 4) rfl rfl (any_of HT_.out (by kernel_rfl)) (fun _ _ _ h => h) (Or.inl ⟨by rfl, ?_⟩) ?_ ?_
 rotate_left
 ·intro w'
  go_simp
  with_reducible rfl
 rotate_left
 ·simp only [Act.put, List.setIfInBounds_toArray, List.set_cons_zero, List.set_cons_succ, i64_w, i32_w]
  rfl
 refine one_ (i := 62) (N := some 112) (tf 63 3) rfl rfl (one_of HT_.out (by kernel_rfl)) (by decide) (fun K hK => ?_)
 refine goes_ Tryd.func15 (by kernel_rfl) rfl #[.int .i64 24] (by rfl) rfl rfl (bq76) ?_
 refine (ir_Word.calls 24 ⟨#[110, 101, 119]⟩ _ (by kernel_rfl)).mono ?_
 rintro e w962 ⟨rfl, hb⟩
 refine ⟨_, rfl, ?_⟩
 refine hK.out _ _ (below_step hHeld hb) (fun hHeld => ?_)
 clear hK K
 refine norm_ (a' := ?_) ?_ ?_
 rotate_left
 ·show Act.put _ (some 112) _ = _
  simp only [Act.put, List.setIfInBounds_toArray, List.set_cons_zero, List.set_cons_succ, i64_w, i32_w]
  rfl
 refine pure_ (i := 63) (N := some 113) (v := ?_) (a' := ?_) (tf 64 2) rfl rfl (any_of HT_.out (by kernel_rfl)) (fun _ _ _ h => h) (Or.inl ⟨by rfl, ?_⟩) ?_ ?_
 rotate_left
 ·intro w'
  go_simp
  with_reducible rfl
 rotate_left
 ·simp only [Act.put, List.setIfInBounds_toArray, List.set_cons_zero, List.set_cons_succ, i64_w, i32_w]
  rfl
 refine pure_ (i := 64) (N := some 114) (v := ?_) (a' := ?_) (tf 65 1) rfl rfl (any_of HT_.out (by kernel_rfl)) (fun _ _ _ h => h) (Or.inl ⟨by rfl, ?_⟩) ?_ ?_
 rotate_left
 ·intro w'
  go_simp
  with_reducible rfl
 rotate_left
 ·simp only [Act.put, List.setIfInBounds_toArray, List.set_cons_zero, List.set_cons_succ, i64_w, i32_w]
  rfl
 refine pure_ (i := 65) (N := some 0) (v := ?_) (a' := ?_) (tf 66 0) rfl rfl (any_of HT_.out (by kernel_rfl)) (fun _ _ _ h => h) (Or.inl ⟨by rfl, ?_⟩) ?_ ?_
 rotate_left
 ·intro w'
  go_simp
  with_reducible rfl
 rotate_left
 ·simp only [Act.put, List.setIfInBounds_toArray, List.set_cons_zero, List.set_cons_succ, i64_w, i32_w]
  rfl
 refine done_ (done_of HT_.out (by kernel_rfl)) ?_
 have HZ := Aside0.mk (below_step HB2.out (below_step HB7.out hHeld))
 clear HB2 HB7 HC HXX HQ7
 go_wp2_with fail
 go_ret
 exact ⟨rfl, HZ.out⟩
end Go.Proofs.YtkiiojgaaoaipaaDoor.Q
namespace Go.Proofs.YtkiiojgaaoaipaaDoor.Q
open Go.RowKit Go.Proofs.YtkiiojgaaoaipaaDoorW.PrintWords Go.Proofs.YtkiiojgaaoaipaaDoorW.PrintLast Go.Proofs.YtkiiojgaaoaipaaDoorW.PrintMore
attribute [local go_sem] max2_int min2_int max_two min_two max_three min_three max_four min_four   -- for this text's walks alone
set_option linter.unusedVariables false
set_option linter.unusedSimpArgs false
/-! ### truantlaw08_IrUses: function 4 -/
def truantlaw08_IrUses.l0 : Nat → Int → List Int → Int → Int → ByteArray → List ByteArray → ByteArray → List ByteArray → List (S47) → List (S53) → Option (Bool)
 | 0, _, _, _, _, _, _, _, _, _, _ => none
 | k + 1, x1, x5, x6, x7, x577000, x577001, x577002, x577003, x577004, x577005 => if x7 < (x577004.length : Int) then ((truantref08_Listed.f k x577000 x577001 x577002 x577003 x577004 x577005 x7).bind fun t582 => (if t582 = true then (if 0 ≤ x7 then ((truantref08_Has.f k ((rd_T47 x577004 x7).f2) x1).bind fun t584 => (if t584 = true then (if x6 ≥ (x5.length : Int) then (none) else (if 0 ≤ x6 then (if x6 < (x5.length : Int) then (if (rd x5 x6) = x7 then (truantlaw08_IrUses.l0 k x1 x5 (wrap64 (x6 + 1)) (wrap64 (x7 + 1)) x577000 x577001 x577002 x577003 x577004 x577005) else (none)) else (none)) else (none))) else (truantlaw08_IrUses.l0 k x1 x5 x6 (wrap64 (x7 + 1)) x577000 x577001 x577002 x577003 x577004 x577005))) else (none)) else (truantlaw08_IrUses.l0 k x1 x5 x6 (wrap64 (x7 + 1)) x577000 x577001 x577002 x577003 x577004 x577005))) else (if x6 = (x5.length : Int) then ((ir_Line.f k x577000 x577001 x577002 x577003 x577004 x577005 x1).bind fun t586 => ((truantref08_Line.f k x577000 x577001 x577002 x577003 x577004 x577005 x1).bind fun t587 => (some (t586.toList == t587.toList)))) else (none))
def truantlaw08_IrUses.f (k : Nat) (a0_0 : ByteArray) (l0_1 : List ByteArray) (a0_2 : ByteArray) (l0_3 : List ByteArray) (l0_4 : List (S47)) (l0_5 : List (S53)) (a1 : Int) : Option (Bool) := (truantlaw08_awake.f).bind fun t577 => (if t577 = true then ((truantlaw08_wide.f k a0_0 l0_1 a0_2 l0_3 l0_4 l0_5).bind fun t578 => (if t578 = true then (some true) else ((ir_Uses.f a0_0 l0_1 a0_2 l0_3 l0_4 l0_5 a1).bind fun t579 => (truantlaw08_IrUses.l0 k a1 t579 0 0 a0_0 l0_1 a0_2 l0_3 l0_4 l0_5)))) else (none))
theorem truantlaw08_IrUses.mono_l : ∀ k, (∀ y0 y1 y2 y3 y4 y5 y6 y7 y8 y9, LeO (truantlaw08_IrUses.l0 k y0 y1 y2 y3 y4 y5 y6 y7 y8 y9) (truantlaw08_IrUses.l0 (k + 1) y0 y1 y2 y3 y4 y5 y6 y7 y8 y9))
 | 0 => fun _ _ _ _ _ _ _ _ _ _ r h => by simp [truantlaw08_IrUses.l0] at h
 | k + 1 => by
  have ih0 := truantlaw08_IrUses.mono_l k
  ·intro y0 y1 y2 y3 y4 y5 y6 y7 y8 y9
   unfold truantlaw08_IrUses.l0
   repeat' first
   | (with_reducible exact ih0 _ _ _ _ _ _ _ _ _ _)
   | (with_reducible exact ir_Line.mono _ _ _ _ _ _ _ _)
   | (with_reducible exact truantref08_Has.mono _ _ _)
   | (with_reducible exact truantref08_Line.mono _ _ _ _ _ _ _ _)
   | (with_reducible exact truantref08_Listed.mono _ _ _ _ _ _ _ _)
   | (with_reducible exact LeO.refl _)
   | (with_reducible refine LeO.ite ?_ ?_)
   | (with_reducible refine LeO.bind ?_ (fun _ => ?_))
theorem truantlaw08_IrUses.mono : ∀ a0 a1 a2 a3 a4 a5 a6 k, LeO (truantlaw08_IrUses.f k a0 a1 a2 a3 a4 a5 a6) (truantlaw08_IrUses.f (k + 1) a0 a1 a2 a3 a4 a5 a6) := by
 intro a0 a1 a2 a3 a4 a5 a6 k
 have ih0 := truantlaw08_IrUses.mono_l k
 unfold truantlaw08_IrUses.f
 repeat' first
   | (with_reducible exact ih0 _ _ _ _ _ _ _ _ _ _)
   | (with_reducible exact truantlaw08_wide.mono _ _ _ _ _ _ _)
   | (with_reducible exact LeO.refl _)
   | (with_reducible refine LeO.ite ?_ ?_)
   | (with_reducible refine LeO.bind ?_ (fun _ => ?_))
def truantlaw08_IrUses.T14 : Bool × List (List Nat × List Nat) := (true, [([], []), ([], []), ([1], [1]), ([0, 2], [0, 2]), ([3], [3]), ([4], [4]), ([4], [4]), ([5, 6, 4, 4], [4, 5, 6]), ([4], [4]), ([4], [4]), ([8, 9, 7, 4], [4, 8, 9]), ([7, 10, 4], [4, 7, 10]), ([4, 11], [4, 11]), ([12, 10, 0, 1, 2, 3, 4, 5, 6, 7, 8, 9, 10, 11, 12], [12])])
def truantlaw08_IrUses.B14 : List Nat := [0, 0, 2, 7, 15, 31, 31, 127, 31, 31, 1023, 2047, 4095, 8191]
theorem truantlaw08_IrUses.tab14 : rtab .any (opsOf Tryd.f4 14) = truantlaw08_IrUses.T14 := by kernel_rfl
theorem truantlaw08_IrUses.bits14 : waitsOk truantlaw08_IrUses.T14.2 truantlaw08_IrUses.B14 = true := by kernel_rfl
set_option maxHeartbeats 8000000 in
set_option maxRecDepth 100000 in
theorem truantlaw08_IrUses.calls (k : Nat) (a0_0 : ByteArray) (A0_1 : Option Addr) (c0_1 : Nat) (l0_1 : List ByteArray) (a0_2 : ByteArray) (A0_3 : Option Addr) (c0_3 : Nat) (l0_3 : List ByteArray) (A0_4 : Option Addr) (c0_4 : Nat) (l0_4 : List (S47)) (A0_5 : Option Addr) (c0_5 : Nat) (l0_5 : List (S53)) (a1 : Int) (r : Bool) (w : World) (hr0_1 : Kd.C Kd.string w A0_1 l0_1.length l0_1) (hc0_1 : l0_1.length ≤ c0_1) (hr0_3 : Kd.C Kd.string w A0_3 l0_3.length l0_3) (hc0_3 : l0_3.length ≤ c0_3) (hr0_4 : Kd.C k47 w A0_4 l0_4.length l0_4) (hc0_4 : l0_4.length ≤ c0_4) (hr0_5 : Kd.C k53 w A0_5 l0_5.length l0_5) (hc0_5 : l0_5.length ≤ c0_5) (h : truantlaw08_IrUses.f k a0_0 l0_1 a0_2 l0_3 l0_4 l0_5 a1 = some r) (hG : Glob w := by first | assumption | (refine Glob.below (by assumption) ?_; repeat (first | with_reducible exact (Aside0.out (by assumption)) | (refine below_set ?_ (Aside0.out (by assumption))) | (with_reducible first | apply below_alloc | apply pw_below_drewN | apply below_drew1) | exact (Aside0.out (by assumption))))) :
  Calls Tryd.prog 4 #[.agg #[.string a0_0, .slice A0_1 l0_1.length c0_1, .string a0_2, .slice A0_3 l0_3.length c0_3, .slice A0_4 l0_4.length c0_4, .slice A0_5 l0_5.length c0_5], .int .i64 a1] w fun e w' => e = .returned (.bool r) ∧ Below w.heap.size w w' := by
 have hu40 := Tryd.underlying40
 have HR0_1 := Aside0.mk hr0_1
 have HC0_1 := Aside0.mk hc0_1
 clear hr0_1 hc0_1
 have HR0_3 := Aside0.mk hr0_3
 have HC0_3 := Aside0.mk hc0_3
 clear hr0_3 hc0_3
 have HR0_4 := Aside0.mk hr0_4
 have HC0_4 := Aside0.mk hc0_4
 clear hr0_4 hc0_4
 have HR0_5 := Aside0.mk hr0_5
 have HC0_5 := Aside0.mk hc0_5
 clear hr0_5 hc0_5
 have HB := Aside0.mk (Below.refl w.heap.size w)
 have H : ((truantlaw08_awake.f).bind fun t577 => (if t577 = true then ((truantlaw08_wide.f k a0_0 l0_1 a0_2 l0_3 l0_4 l0_5).bind fun t578 => (if t578 = true then (some true) else ((ir_Uses.f a0_0 l0_1 a0_2 l0_3 l0_4 l0_5 a1).bind fun t579 => (truantlaw08_IrUses.l0 k a1 t579 0 0 a0_0 l0_1 a0_2 l0_3 l0_4 l0_5)))) else (none))) = some r := h
 clear h
 replace H := Option.bind_eq_some_iff.mp H
 obtain ⟨t577, A30, H⟩ := H
 (try dsimp only at H)
 have A3 := Aside0.mk A30
 clear A30
 by_cases c4 : t577 = true
 ·subst c4
  have H1 := H; rw [if_pos rfl] at H1; (try dsimp only at H1)
  clear H
  have H := H1
  clear H1
  replace H := Option.bind_eq_some_iff.mp H
  obtain ⟨t578, A50, H⟩ := H
  (try dsimp only at H)
  have A5 := Aside0.mk A50
  clear A50
  by_cases c6 : t578 = true
  ·subst c6
   have H1 := H; rw [if_pos rfl] at H1; (try dsimp only at H1)
   clear H
   have H := H1
   clear H1
   obtain rfl := Option.some.inj H
   go_enter Tryd.func4, Tryd.ntmps4
   go_wp2_with (first | ((with_reducible refine gate_dst (N := 2) rfl ?_); refine box_event ?hg (N := 2) ?hd (cs := #[.string a0_0, .slice A0_1 l0_1.length c0_1, .string a0_2, .slice A0_3 l0_3.length c0_3, .slice A0_4 l0_4.length c0_4, .slice A0_5 l0_5.length c0_5]) (t := 40) ?hr ?_; (case hd => rfl); (case hg => rfl); (case hr => first | (go_simp; done) | (go_simp; rfl)); intro gb576 hg w7 hbox hb; have n0_ := Aside0.mk (below_step (bq51) hb); have n1_ := Aside0.mk (hbox); have n2_ := Aside0.mk ((bq35 : w.heap.size ≤ gb576)); have n3_ := Aside0.mk ((bq35 : w.heap.size ≤ gb576)); clear HB; have HB := n0_; have BK576 := n1_; have GW576 := n2_; have GE576 := n3_; clear n0_ n1_ n2_ n3_ hb hbox hg) | ((with_reducible refine gate_callee (f := 7) rfl ?_); refine goesL_ (some 8) rfl rfl Tryd.func7 (by kernel_rfl) rfl #[] rfl (bq48) ?_; (with_reducible refine (truantlaw08_awake.calls  true _ A3.out).mono ?_); rintro e w8 ⟨rfl, hb⟩; refine ⟨_, rfl, ?_⟩; have n0_ := Aside0.mk (blkB BK576.out hb); have n1_ := Aside0.mk (below_step (bq46) hb); clear BK576 HB; have BK576 := n0_; have HB := n1_; clear n0_ n1_ hb; obtain ⟨hcz9_0, hcz9_1, hcz9_2, hcz9_3, hcz9_4, hcz9_5, hfz9_0, hfz9_1, hfz9_2, hfz9_3, hfz9_4, hfz9_5⟩ := bk6 BK576.out) | ((with_reducible refine gate_callee (f := 21) rfl ?_); refine goesL_ (some 11) rfl rfl Tryd.func21 (by kernel_rfl) rfl #[.agg #[.string a0_0, .slice A0_1 l0_1.length c0_1, .string a0_2, .slice A0_3 l0_3.length c0_3, .slice A0_4 l0_4.length c0_4, .slice A0_5 l0_5.length c0_5]] rfl (bq48) ?_; (with_reducible refine (truantlaw08_wide.calls k a0_0 _ _ l0_1 a0_2 _ _ l0_3 _ _ l0_4 _ _ l0_5 true _ ?side1 ?side2 ?side3 ?side4 ?side5 ?side6 ?side7 ?side8 A5.out).mono ?_); (case side1 => repeat (first | exact (Kd.C_below HR0_1.out HB.out) | (with_reducible refine Kd.C_alloc ?_ _) | (with_reducible refine Kd.C_drewN ?_ _) | (with_reducible refine Kd.C_drew ?_))); (case side2 => exact HC0_1.out); (case side3 => repeat (first | exact (Kd.C_below HR0_3.out HB.out) | (with_reducible refine Kd.C_alloc ?_ _) | (with_reducible refine Kd.C_drewN ?_ _) | (with_reducible refine Kd.C_drew ?_))); (case side4 => exact HC0_3.out); (case side5 => repeat (first | exact (Kd.C_below HR0_4.out HB.out) | (with_reducible refine Kd.C_alloc ?_ _) | (with_reducible refine Kd.C_drewN ?_ _) | (with_reducible refine Kd.C_drew ?_))); (case side6 => exact HC0_4.out); (case side7 => repeat (first | exact (Kd.C_below HR0_5.out HB.out) | (with_reducible refine Kd.C_alloc ?_ _) | (with_reducible refine Kd.C_drewN ?_ _) | (with_reducible refine Kd.C_drew ?_))); (case side8 => exact HC0_5.out); rintro e w10 ⟨rfl, hb⟩; refine ⟨_, rfl, ?_⟩; have n0_ := Aside0.mk (blkB BK576.out hb); have n1_ := Aside0.mk (below_step (bq46) hb); clear BK576 HB; have BK576 := n0_; have HB := n1_; clear n0_ n1_ hb))
   go_ret
   exact ⟨by first | rfl | (simp [errW_none, errW_some] <;> rfl) | (simp [*, errW_none, errW_some] <;> rfl), bq46⟩
  ·replace c6 := Bool.eq_false_iff.mpr c6
   subst c6
   have H1 := H; rw [if_neg (show ¬ (false = true) by decide)] at H1; (try dsimp only at H1)
   clear H
   have H := H1
   clear H1
   replace H := Option.bind_eq_some_iff.mp H
   obtain ⟨t579, A110, H⟩ := H
   (try dsimp only at H)
   have A11 := Aside0.mk A110
   clear A110
   have H' := Aside0.mk H
   clear H
   go_enter Tryd.func4, Tryd.ntmps4
   go_wp2_with (first | ((with_reducible refine gate_dst (N := 2) rfl ?_); refine box_event ?hg (N := 2) ?hd (cs := #[.string a0_0, .slice A0_1 l0_1.length c0_1, .string a0_2, .slice A0_3 l0_3.length c0_3, .slice A0_4 l0_4.length c0_4, .slice A0_5 l0_5.length c0_5]) (t := 40) ?hr ?_; (case hd => rfl); (case hg => rfl); (case hr => first | (go_simp; done) | (go_simp; rfl)); intro gb576 hg w12 hbox hb; have n0_ := Aside0.mk (below_step (bq51) hb); have n1_ := Aside0.mk (hbox); have n2_ := Aside0.mk ((bq35 : w.heap.size ≤ gb576)); have n3_ := Aside0.mk ((bq35 : w.heap.size ≤ gb576)); clear HB; have HB := n0_; have BK576 := n1_; have GW576 := n2_; have GE576 := n3_; clear n0_ n1_ n2_ n3_ hb hbox hg) | ((with_reducible refine gate_callee (f := 7) rfl ?_); refine goesL_ (some 8) rfl rfl Tryd.func7 (by kernel_rfl) rfl #[] rfl (bq48) ?_; (with_reducible refine (truantlaw08_awake.calls  true _ A3.out).mono ?_); rintro e w13 ⟨rfl, hb⟩; refine ⟨_, rfl, ?_⟩; have n0_ := Aside0.mk (blkB BK576.out hb); have n1_ := Aside0.mk (below_step (bq46) hb); clear BK576 HB; have BK576 := n0_; have HB := n1_; clear n0_ n1_ hb; obtain ⟨hcz14_0, hcz14_1, hcz14_2, hcz14_3, hcz14_4, hcz14_5, hfz14_0, hfz14_1, hfz14_2, hfz14_3, hfz14_4, hfz14_5⟩ := bk6 BK576.out) | ((with_reducible refine gate_callee (f := 21) rfl ?_); refine goesL_ (some 11) rfl rfl Tryd.func21 (by kernel_rfl) rfl #[.agg #[.string a0_0, .slice A0_1 l0_1.length c0_1, .string a0_2, .slice A0_3 l0_3.length c0_3, .slice A0_4 l0_4.length c0_4, .slice A0_5 l0_5.length c0_5]] rfl (bq48) ?_; (with_reducible refine (truantlaw08_wide.calls k a0_0 _ _ l0_1 a0_2 _ _ l0_3 _ _ l0_4 _ _ l0_5 false _ ?side1 ?side2 ?side3 ?side4 ?side5 ?side6 ?side7 ?side8 A5.out).mono ?_); (case side1 => repeat (first | exact (Kd.C_below HR0_1.out HB.out) | (with_reducible refine Kd.C_alloc ?_ _) | (with_reducible refine Kd.C_drewN ?_ _) | (with_reducible refine Kd.C_drew ?_))); (case side2 => exact HC0_1.out); (case side3 => repeat (first | exact (Kd.C_below HR0_3.out HB.out) | (with_reducible refine Kd.C_alloc ?_ _) | (with_reducible refine Kd.C_drewN ?_ _) | (with_reducible refine Kd.C_drew ?_))); (case side4 => exact HC0_3.out); (case side5 => repeat (first | exact (Kd.C_below HR0_4.out HB.out) | (with_reducible refine Kd.C_alloc ?_ _) | (with_reducible refine Kd.C_drewN ?_ _) | (with_reducible refine Kd.C_drew ?_))); (case side6 => exact HC0_4.out); (case side7 => repeat (first | exact (Kd.C_below HR0_5.out HB.out) | (with_reducible refine Kd.C_alloc ?_ _) | (with_reducible refine Kd.C_drewN ?_ _) | (with_reducible refine Kd.C_drew ?_))); (case side8 => exact HC0_5.out); rintro e w15 ⟨rfl, hb⟩; refine ⟨_, rfl, ?_⟩; have n0_ := Aside0.mk (blkB BK576.out hb); have n1_ := Aside0.mk (below_step (bq46) hb); clear BK576 HB; have BK576 := n0_; have HB := n1_; clear n0_ n1_ hb; obtain ⟨hcz16_0, hcz16_1, hcz16_2, hcz16_3, hcz16_4, hcz16_5, hfz16_0, hfz16_1, hfz16_2, hfz16_3, hfz16_4, hfz16_5⟩ := bk6 BK576.out) | ((with_reducible refine gate_callee (f := 22) rfl ?_); refine goesL_ (some 14) rfl rfl Tryd.func22 (by kernel_rfl) rfl #[.agg #[.string a0_0, .slice A0_1 l0_1.length c0_1, .string a0_2, .slice A0_3 l0_3.length c0_3, .slice A0_4 l0_4.length c0_4, .slice A0_5 l0_5.length c0_5], .int .i64 a1] rfl (bq48) ?_; (with_reducible refine (ir_Uses.calls a0_0 _ _ l0_1 a0_2 _ _ l0_3 _ _ l0_4 _ _ l0_5 a1 t579 _ ?side1 ?side2 ?side3 ?side4 ?side5 ?side6 ?side7 ?side8 A11.out).mono ?_); (case side1 => repeat (first | exact (Kd.C_below HR0_1.out HB.out) | (with_reducible refine Kd.C_alloc ?_ _) | (with_reducible refine Kd.C_drewN ?_ _) | (with_reducible refine Kd.C_drew ?_))); (case side2 => exact HC0_1.out); (case side3 => repeat (first | exact (Kd.C_below HR0_3.out HB.out) | (with_reducible refine Kd.C_alloc ?_ _) | (with_reducible refine Kd.C_drewN ?_ _) | (with_reducible refine Kd.C_drew ?_))); (case side4 => exact HC0_3.out); (case side5 => repeat (first | exact (Kd.C_below HR0_4.out HB.out) | (with_reducible refine Kd.C_alloc ?_ _) | (with_reducible refine Kd.C_drewN ?_ _) | (with_reducible refine Kd.C_drew ?_))); (case side6 => exact HC0_4.out); (case side7 => repeat (first | exact (Kd.C_below HR0_5.out HB.out) | (with_reducible refine Kd.C_alloc ?_ _) | (with_reducible refine Kd.C_drewN ?_ _) | (with_reducible refine Kd.C_drew ?_))); (case side8 => exact HC0_5.out); rintro e w17 ⟨v580, rfl, ho0, hb⟩; refine ⟨_, rfl, ?_⟩; have n0_ := Aside0.mk (Kd.R_lower ho0 (below_size (bq46))); have n1_ := Aside0.mk (blkB BK576.out hb); have n2_ := Aside0.mk (below_step (bq46) hb); clear BK576 HB; have HO581 := n0_; have BK576 := n1_; have HB := n2_; clear n0_ n1_ n2_ hb ho0))
   go_loopg [6, 7] k (fun kq v6 v7 w' => ∃ (x6_1 : Int) (x7_1 : Int), v6 = .int .i64 x6_1 ∧ v7 = .int .i64 x7_1 ∧ Aside0 (truantlaw08_IrUses.l0 kq a1 t579 x6_1 x7_1 a0_0 l0_1 a0_2 l0_3 l0_4 l0_5 = some r) ∧ Aside0 (kq ≤ k) ∧ Aside0 (Kd.R (Kd.int .i64) 3 w' w.heap.size (fun _ => True) v580 t579) ∧ Aside0 (w'.heap[gb576]? = some (.cells #[.string a0_0, (.slice A0_1 l0_1.length c0_1), .string a0_2, (.slice A0_3 l0_3.length c0_3), (.slice A0_4 l0_4.length c0_4), (.slice A0_5 l0_5.length c0_5)] 40 (0, 0))) ∧ Aside0 (Below w.heap.size w w'))
   case atStart => exact ⟨(0), (0), (bq78), (bq78), H', ⟨Nat.le_refl _⟩, ⟨by (with_reducible repeat (first | apply Kd.R_alloc | apply Kd.R_drewN | apply Kd.R_drew)); exact HO581.out⟩, ⟨by (with_reducible repeat (first | refine blk_drewN ?_ _ | refine blk_drew ?_ | refine blk_alloc ?_ _)); exact BK576.out⟩, ⟨bq46⟩⟩
   case round =>
    clear H' hcz14_0 hcz14_1 hcz14_2 hcz14_3 hcz14_4 hcz14_5 hcz16_0 hcz16_1 hcz16_2 hcz16_3 hcz16_4 hcz16_5 hfz14_0 hfz14_1 hfz14_2 hfz14_3 hfz14_4 hfz14_5 hfz16_0 hfz16_1 hfz16_2 hfz16_3 hfz16_4 hfz16_5
    obtain ⟨x6_1, x7_1, rfl, rfl, HA, HK1, HO_5, BK576, HB⟩ := hrel
    cases gk with
    | zero => exact absurd HA.out (by simp [truantlaw08_IrUses.l0])
    | succ k1 =>
     have H := HA.out
     clear HA
     simp only [truantlaw08_IrUses.l0] at H
     by_cases c18 : x7_1 < (l0_4.length : Int)
     ·rw [if_pos c18] at H
      have c18b0 := decide_eq_true c18
      clear c18
      replace H := Option.bind_eq_some_iff.mp H
      obtain ⟨t582, A190, H⟩ := H
      (try dsimp only at H)
      have A19 := Aside0.mk A190
      clear A190
      by_cases c20 : t582 = true
      ·subst c20
       have H1 := H; rw [if_pos rfl] at H1; (try dsimp only at H1)
       clear H
       have H := H1
       clear H1
       by_cases c21 : 0 ≤ x7_1
       ·rw [if_pos c21] at H
        have c21b0 := decide_eq_true c21
        clear c21
        replace H := Option.bind_eq_some_iff.mp H
        obtain ⟨t584, A220, H⟩ := H
        (try dsimp only at H)
        have A22 := Aside0.mk A220
        clear A220
        by_cases c23 : t584 = true
        ·subst c23
         have H1 := H; rw [if_pos rfl] at H1; (try dsimp only at H1)
         clear H
         have H := H1
         clear H1
         by_cases c24 : x6_1 ≥ (t579.length : Int)
         ·rw [if_pos c24] at H
          exact absurd H (by simp)
         ·rw [if_neg c24] at H
          have c24b0 := decide_eq_false c24
          clear c24
          by_cases c25 : 0 ≤ x6_1
          ·rw [if_pos c25] at H
           have c25b0 := decide_eq_true c25
           clear c25
           by_cases c26 : x6_1 < (t579.length : Int)
           ·rw [if_pos c26] at H
            have c26b0 := decide_eq_true c26
            clear c26
            by_cases c27 : (rd t579 x6_1) = x7_1
            ·rw [if_pos c27] at H
             have c27b0 : ((rd t579 x6_1) == x7_1) = true := beq_iff_eq.mpr c27
             have c27b1 : ((rd t579 x6_1) != x7_1) = false := bne_eq_false_iff_eq.mpr c27
             clear c27
             have H' := Aside0.mk H
             clear H
             obtain ⟨hcz28_0, hcz28_1, hcz28_2, hcz28_3, hcz28_4, hcz28_5, hfz28_0, hfz28_1, hfz28_2, hfz28_3, hfz28_4, hfz28_5⟩ := bk6 BK576.out
             go_wp2_with (first | ((with_reducible refine gate_callee (f := 23) rfl ?_); refine goesL_ (some 24) rfl rfl Tryd.func23 (by kernel_rfl) rfl #[.agg #[.string a0_0, .slice A0_1 l0_1.length c0_1, .string a0_2, .slice A0_3 l0_3.length c0_3, .slice A0_4 l0_4.length c0_4, .slice A0_5 l0_5.length c0_5], .int .i64 x7_1] rfl (bq48) ?_; (with_reducible refine (truantref08_Listed.calls k1 a0_0 _ _ l0_1 a0_2 _ _ l0_3 _ _ l0_4 _ _ l0_5 x7_1 true _ ?side1 ?side2 ?side3 ?side4 ?side5 ?side6 ?side7 ?side8 A19.out).mono ?_); (case side1 => repeat (first | exact (Kd.C_below HR0_1.out HB.out) | (with_reducible refine Kd.C_alloc ?_ _) | (with_reducible refine Kd.C_drewN ?_ _) | (with_reducible refine Kd.C_drew ?_))); (case side2 => exact HC0_1.out); (case side3 => repeat (first | exact (Kd.C_below HR0_3.out HB.out) | (with_reducible refine Kd.C_alloc ?_ _) | (with_reducible refine Kd.C_drewN ?_ _) | (with_reducible refine Kd.C_drew ?_))); (case side4 => exact HC0_3.out); (case side5 => repeat (first | exact (Kd.C_below HR0_4.out HB.out) | (with_reducible refine Kd.C_alloc ?_ _) | (with_reducible refine Kd.C_drewN ?_ _) | (with_reducible refine Kd.C_drew ?_))); (case side6 => exact HC0_4.out); (case side7 => repeat (first | exact (Kd.C_below HR0_5.out HB.out) | (with_reducible refine Kd.C_alloc ?_ _) | (with_reducible refine Kd.C_drewN ?_ _) | (with_reducible refine Kd.C_drew ?_))); (case side8 => exact HC0_5.out); rintro e w29 ⟨rfl, hb⟩; refine ⟨_, rfl, ?_⟩; have n0_ := Aside0.mk (Kd.R_below (bq74) hb); have n1_ := Aside0.mk (blkB BK576.out hb); have n2_ := Aside0.mk (below_step (bq46) hb); clear HO_5 BK576 HB; have HO_5 := n0_; have BK576 := n1_; have HB := n2_; clear n0_ n1_ n2_ hb; obtain ⟨hcz30_0, hcz30_1, hcz30_2, hcz30_3, hcz30_4, hcz30_5, hfz30_0, hfz30_1, hfz30_2, hfz30_3, hfz30_4, hfz30_5⟩ := bk6 BK576.out; have p583 : 0 ≤ (x7_1 : Int) := of_decide_eq_true (bq77); have q583 : x7_1 < (l0_4.length : Int) := of_decide_eq_true (bq77); obtain ⟨ad583, A583_2, c583_2, e583, hx583_0, hx583_1, hx583_2, hx583_3, hx583_4, hl583_2, hi583_2⟩ := at_T47 HR0_4.out x7_1 p583 q583; cases e583; replace hx583_0 := (HB.out.cell (World.block_lt_of_cell? w _ hx583_0)).trans hx583_0; replace hx583_1 := (HB.out.cell (World.block_lt_of_cell? w _ hx583_1)).trans hx583_1; replace hx583_2 := (HB.out.cell (World.block_lt_of_cell? w _ hx583_2)).trans hx583_2; replace hx583_3 := (HB.out.cell (World.block_lt_of_cell? w _ hx583_3)).trans hx583_3; replace hx583_4 := (HB.out.cell (World.block_lt_of_cell? w _ hx583_4)).trans hx583_4; have HR583_2 := Aside0.mk hi583_2; have HC583_2 := Aside0.mk hl583_2; clear hi583_2 hl583_2; replace p583 := eq_true p583; replace q583 := eq_true q583) | (go_at_call 24; (with_reducible refine (truantref08_Has.calls k1 _ _ ((rd_T47 l0_4 x7_1).f2) a1 true _ ?side1 ?side2 A22.out).mono ?_); (case side1 => repeat (first | exact (Kd.C_below HR583_2.out HB.out) | (with_reducible refine Kd.C_alloc ?_ _) | (with_reducible refine Kd.C_drewN ?_ _) | (with_reducible refine Kd.C_drew ?_))); (case side2 => exact HC583_2.out); rintro e w' ⟨rfl, ⟨nd, rfl⟩⟩; obtain ⟨Ao31, co31, eo31⟩ := Kd.R_slice HO_5.out; subst eo31; have p585 : 0 ≤ (x6_1 : Int) := of_decide_eq_true (bq77); have q585 : x6_1 < (t579.length : Int) := of_decide_eq_true (bq77); obtain ⟨ad585, e585, hx585_0⟩ := Kd.at_int (Kd.R_reads' HO_5.out).2.2 x6_1 p585 q585; cases e585; replace p585 := eq_true p585; replace q585 := eq_true q585))
             go_roundg k1
             case measure => have := HK1.out; omega
             case rel => exact ⟨(wrap64 (x6_1 + 1)), (wrap64 (x7_1 + 1)), (bq78), (bq78), H', ⟨by have := HK1.out; omega⟩, ⟨bq74⟩, ⟨by (with_reducible repeat (first | refine blk_drewN ?_ _ | refine blk_drew ?_ | refine blk_alloc ?_ _)); exact BK576.out⟩, ⟨bq46⟩⟩
            ·rw [if_neg c27] at H
             exact absurd H (by simp)
           ·rw [if_neg c26] at H
            exact absurd H (by simp)
          ·rw [if_neg c25] at H
           exact absurd H (by simp)
        ·replace c23 := Bool.eq_false_iff.mpr c23
         subst c23
         have H1 := H; rw [if_neg (show ¬ (false = true) by decide)] at H1; (try dsimp only at H1)
         clear H
         have H := H1
         clear H1
         have H' := Aside0.mk H
         clear H
         obtain ⟨hcz32_0, hcz32_1, hcz32_2, hcz32_3, hcz32_4, hcz32_5, hfz32_0, hfz32_1, hfz32_2, hfz32_3, hfz32_4, hfz32_5⟩ := bk6 BK576.out
         go_wp2_with (first | ((with_reducible refine gate_callee (f := 23) rfl ?_); refine goesL_ (some 24) rfl rfl Tryd.func23 (by kernel_rfl) rfl #[.agg #[.string a0_0, .slice A0_1 l0_1.length c0_1, .string a0_2, .slice A0_3 l0_3.length c0_3, .slice A0_4 l0_4.length c0_4, .slice A0_5 l0_5.length c0_5], .int .i64 x7_1] rfl (bq48) ?_; (with_reducible refine (truantref08_Listed.calls k1 a0_0 _ _ l0_1 a0_2 _ _ l0_3 _ _ l0_4 _ _ l0_5 x7_1 true _ ?side1 ?side2 ?side3 ?side4 ?side5 ?side6 ?side7 ?side8 A19.out).mono ?_); (case side1 => repeat (first | exact (Kd.C_below HR0_1.out HB.out) | (with_reducible refine Kd.C_alloc ?_ _) | (with_reducible refine Kd.C_drewN ?_ _) | (with_reducible refine Kd.C_drew ?_))); (case side2 => exact HC0_1.out); (case side3 => repeat (first | exact (Kd.C_below HR0_3.out HB.out) | (with_reducible refine Kd.C_alloc ?_ _) | (with_reducible refine Kd.C_drewN ?_ _) | (with_reducible refine Kd.C_drew ?_))); (case side4 => exact HC0_3.out); (case side5 => repeat (first | exact (Kd.C_below HR0_4.out HB.out) | (with_reducible refine Kd.C_alloc ?_ _) | (with_reducible refine Kd.C_drewN ?_ _) | (with_reducible refine Kd.C_drew ?_))); (case side6 => exact HC0_4.out); (case side7 => repeat (first | exact (Kd.C_below HR0_5.out HB.out) | (with_reducible refine Kd.C_alloc ?_ _) | (with_reducible refine Kd.C_drewN ?_ _) | (with_reducible refine Kd.C_drew ?_))); (case side8 => exact HC0_5.out); rintro e w33 ⟨rfl, hb⟩; refine ⟨_, rfl, ?_⟩; have n0_ := Aside0.mk (Kd.R_below (bq74) hb); have n1_ := Aside0.mk (blkB BK576.out hb); have n2_ := Aside0.mk (below_step (bq46) hb); clear HO_5 BK576 HB; have HO_5 := n0_; have BK576 := n1_; have HB := n2_; clear n0_ n1_ n2_ hb; obtain ⟨hcz34_0, hcz34_1, hcz34_2, hcz34_3, hcz34_4, hcz34_5, hfz34_0, hfz34_1, hfz34_2, hfz34_3, hfz34_4, hfz34_5⟩ := bk6 BK576.out; have p583 : 0 ≤ (x7_1 : Int) := of_decide_eq_true (bq77); have q583 : x7_1 < (l0_4.length : Int) := of_decide_eq_true (bq77); obtain ⟨ad583, A583_2, c583_2, e583, hx583_0, hx583_1, hx583_2, hx583_3, hx583_4, hl583_2, hi583_2⟩ := at_T47 HR0_4.out x7_1 p583 q583; cases e583; replace hx583_0 := (HB.out.cell (World.block_lt_of_cell? w _ hx583_0)).trans hx583_0; replace hx583_1 := (HB.out.cell (World.block_lt_of_cell? w _ hx583_1)).trans hx583_1; replace hx583_2 := (HB.out.cell (World.block_lt_of_cell? w _ hx583_2)).trans hx583_2; replace hx583_3 := (HB.out.cell (World.block_lt_of_cell? w _ hx583_3)).trans hx583_3; replace hx583_4 := (HB.out.cell (World.block_lt_of_cell? w _ hx583_4)).trans hx583_4; have HR583_2 := Aside0.mk hi583_2; have HC583_2 := Aside0.mk hl583_2; clear hi583_2 hl583_2; replace p583 := eq_true p583; replace q583 := eq_true q583) | (go_at_call 24; (with_reducible refine (truantref08_Has.calls k1 _ _ ((rd_T47 l0_4 x7_1).f2) a1 false _ ?side1 ?side2 A22.out).mono ?_); (case side1 => repeat (first | exact (Kd.C_below HR583_2.out HB.out) | (with_reducible refine Kd.C_alloc ?_ _) | (with_reducible refine Kd.C_drewN ?_ _) | (with_reducible refine Kd.C_drew ?_))); (case side2 => exact HC583_2.out); rintro e w' ⟨rfl, ⟨nd, rfl⟩⟩))
         go_roundg k1
         case measure => have := HK1.out; omega
         case rel => exact ⟨(x6_1), (wrap64 (x7_1 + 1)), (bq78), (bq78), H', ⟨by have := HK1.out; omega⟩, ⟨bq74⟩, ⟨by (with_reducible repeat (first | refine blk_drewN ?_ _ | refine blk_drew ?_ | refine blk_alloc ?_ _)); exact BK576.out⟩, ⟨bq46⟩⟩
       ·rw [if_neg c21] at H
        exact absurd H (by simp)
      ·replace c20 := Bool.eq_false_iff.mpr c20
       subst c20
       have H1 := H; rw [if_neg (show ¬ (false = true) by decide)] at H1; (try dsimp only at H1)
       clear H
       have H := H1
       clear H1
       have H' := Aside0.mk H
       clear H
       obtain ⟨hcz35_0, hcz35_1, hcz35_2, hcz35_3, hcz35_4, hcz35_5, hfz35_0, hfz35_1, hfz35_2, hfz35_3, hfz35_4, hfz35_5⟩ := bk6 BK576.out
       go_wp2_with (first | ((with_reducible refine gate_callee (f := 23) rfl ?_); refine goesL_ (some 24) rfl rfl Tryd.func23 (by kernel_rfl) rfl #[.agg #[.string a0_0, .slice A0_1 l0_1.length c0_1, .string a0_2, .slice A0_3 l0_3.length c0_3, .slice A0_4 l0_4.length c0_4, .slice A0_5 l0_5.length c0_5], .int .i64 x7_1] rfl (bq48) ?_; (with_reducible refine (truantref08_Listed.calls k1 a0_0 _ _ l0_1 a0_2 _ _ l0_3 _ _ l0_4 _ _ l0_5 x7_1 false _ ?side1 ?side2 ?side3 ?side4 ?side5 ?side6 ?side7 ?side8 A19.out).mono ?_); (case side1 => repeat (first | exact (Kd.C_below HR0_1.out HB.out) | (with_reducible refine Kd.C_alloc ?_ _) | (with_reducible refine Kd.C_drewN ?_ _) | (with_reducible refine Kd.C_drew ?_))); (case side2 => exact HC0_1.out); (case side3 => repeat (first | exact (Kd.C_below HR0_3.out HB.out) | (with_reducible refine Kd.C_alloc ?_ _) | (with_reducible refine Kd.C_drewN ?_ _) | (with_reducible refine Kd.C_drew ?_))); (case side4 => exact HC0_3.out); (case side5 => repeat (first | exact (Kd.C_below HR0_4.out HB.out) | (with_reducible refine Kd.C_alloc ?_ _) | (with_reducible refine Kd.C_drewN ?_ _) | (with_reducible refine Kd.C_drew ?_))); (case side6 => exact HC0_4.out); (case side7 => repeat (first | exact (Kd.C_below HR0_5.out HB.out) | (with_reducible refine Kd.C_alloc ?_ _) | (with_reducible refine Kd.C_drewN ?_ _) | (with_reducible refine Kd.C_drew ?_))); (case side8 => exact HC0_5.out); rintro e w36 ⟨rfl, hb⟩; refine ⟨_, rfl, ?_⟩; have n0_ := Aside0.mk (Kd.R_below (bq74) hb); have n1_ := Aside0.mk (blkB BK576.out hb); have n2_ := Aside0.mk (below_step (bq46) hb); clear HO_5 BK576 HB; have HO_5 := n0_; have BK576 := n1_; have HB := n2_; clear n0_ n1_ n2_ hb))
       go_roundg k1
       case measure => have := HK1.out; omega
       case rel => exact ⟨(x6_1), (wrap64 (x7_1 + 1)), (bq78), (bq78), H', ⟨by have := HK1.out; omega⟩, ⟨bq74⟩, ⟨by (with_reducible repeat (first | refine blk_drewN ?_ _ | refine blk_drew ?_ | refine blk_alloc ?_ _)); exact BK576.out⟩, ⟨bq46⟩⟩
     ·rw [if_neg c18] at H
      have c18b0 := decide_eq_false c18
      clear c18
      by_cases c37 : x6_1 = (t579.length : Int)
      ·rw [if_pos c37] at H
       have c37b0 : (x6_1 == (t579.length : Int)) = true := beq_iff_eq.mpr c37
       have c37b1 : (x6_1 != (t579.length : Int)) = false := bne_eq_false_iff_eq.mpr c37
       clear c37
       replace H := Option.bind_eq_some_iff.mp H
       obtain ⟨t586, A380, H⟩ := H
       (try dsimp only at H)
       have A38 := Aside0.mk A380
       clear A380
       replace H := Option.bind_eq_some_iff.mp H
       obtain ⟨t587, A390, H⟩ := H
       (try dsimp only at H)
       have A39 := Aside0.mk A390
       clear A390
       obtain rfl := Option.some.inj H
       obtain ⟨hcz40_0, hcz40_1, hcz40_2, hcz40_3, hcz40_4, hcz40_5, hfz40_0, hfz40_1, hfz40_2, hfz40_3, hfz40_4, hfz40_5⟩ := bk6 BK576.out
       try go_wp2
       have n0_ := Aside0.mk (Kd.R_drew HO_5.out)
       have n1_ := Aside0.mk (blk_drew BK576.out)
       have n2_ := Aside0.mk (below_drew1 HB.out)
       clear HO_5 BK576 HB
       have HO_5 := n0_
       have BK576 := n1_
       have HB := n2_
       clear n0_ n1_ n2_
       obtain ⟨Ao42, co42, eo42⟩ := Kd.R_slice HO_5.out
       (first | subst eo42 | (injection eo42 with f1_ f2_ f3_; have f4_ := f1_.symm; have f5_ := f3_.symm; clear f1_ f2_ f3_; subst f4_; subst f5_))
       refine start_ (n := 14) (S := fun w' => w'.cell? ⟨gb576, 0, none⟩ = some (.string a0_0) ∧ w'.cell? ⟨gb576, 1, none⟩ = some (.slice A0_1 l0_1.length c0_1) ∧ w'.cell? ⟨gb576, 2, none⟩ = some (.string a0_2) ∧ w'.cell? ⟨gb576, 3, none⟩ = some (.slice A0_3 l0_3.length c0_3) ∧ w'.cell? ⟨gb576, 4, none⟩ = some (.slice A0_4 l0_4.length c0_4) ∧ w'.cell? ⟨gb576, 5, none⟩ = some (.slice A0_5 l0_5.length c0_5)) (ds := []) (tf 0 14) (by kernel_rfl) rfl rfl ⟨(blk_cell BK576.out 0).trans rfl, (blk_cell BK576.out 1).trans rfl, (blk_cell BK576.out 2).trans rfl, (blk_cell BK576.out 3).trans rfl, (blk_cell BK576.out 4).trans rfl, (blk_cell BK576.out 5).trans rfl⟩ (fun hHeld => ?_); refine with_tabW truantlaw08_IrUses.tab14 truantlaw08_IrUses.bits14 (fun HT_ HW_ => ?_)
       generalize wr.drew = w41 at HO_5 BK576 HB hHeld ⊢
       refine pure_ (i := 0) (N := some 51) (v := ?_) (a' := ?_) (tf 1 13) rfl rfl (any_of HT_.out (by kernel_rfl)) (fun _ _ _ h => h) (Or.inl ⟨by rfl, ?_⟩) ?_ ?_
       rotate_left
       ·intro w'
        go_simp
        with_reducible rfl
       rotate_left
       ·simp only [Act.put, List.setIfInBounds_toArray, List.set_cons_zero, List.set_cons_succ, i64_w, i32_w]
        rfl
       refine pure_ (i := 1) (N := some 52) (v := ?_) (a' := ?_) (tf 2 12) rfl rfl (any_of HT_.out (by kernel_rfl)) (fun _ _ _ h => h) (Or.inl ⟨by rfl, ?_⟩) ?_ ?_
       rotate_left
       ·intro w'
        go_simp
        with_reducible rfl
       rotate_left
       ·simp only [Act.put, List.setIfInBounds_toArray, List.set_cons_zero, List.set_cons_succ, i64_w, i32_w]
        rfl
       refine pure_ (i := 2) (N := some 53) (v := ?_) (a' := ?_) (tf 3 11) rfl rfl (any_of HT_.out (by kernel_rfl)) (fun _ _ _ h => h) (Or.inl ⟨by rfl, ?_⟩) ?_ ?_
       rotate_left
       ·intro w'
        go_simp
        with_reducible rfl
       rotate_left
       ·simp only [Act.put, List.setIfInBounds_toArray, List.set_cons_zero, List.set_cons_succ, i64_w, i32_w]
        rfl
       refine pure_ (i := 3) (N := some 54) (v := ?_) (a' := ?_) (tf 4 10) rfl rfl (any_of HT_.out (by kernel_rfl)) (fun _ _ _ h => h) (Or.inl ⟨by rfl, ?_⟩) ?_ ?_
       rotate_left
       ·intro w'
        go_simp
        with_reducible rfl
       rotate_left
       ·simp only [Act.put, List.setIfInBounds_toArray, List.set_cons_zero, List.set_cons_succ, i64_w, i32_w]
        rfl
       refine pure_ (i := 4) (N := some 55) (v := ?_) (a' := ?_) (tf 5 9) rfl rfl (any_of HT_.out (by kernel_rfl)) (fun _ _ _ h => h) (Or.inl ⟨by rfl, ?_⟩) ?_ ?_
       rotate_left
       ·intro w'
        go_simp
        with_reducible rfl
       rotate_left
       ·simp only [Act.put, List.setIfInBounds_toArray, List.set_cons_zero, List.set_cons_succ, i64_w, i32_w]
        rfl
       refine pure_ (i := 6) (N := some 57) (v := ?_) (a' := ?_) #[true, true, true, true, true, false, true, false, false, false, false, false, false, false] rfl rfl (any_of HT_.out (by kernel_rfl)) (fun _ _ _ h => h) (Or.inl ⟨by rfl, ?_⟩) ?_ ?_
       rotate_left
       ·intro w'
        go_simp
        with_reducible rfl
       rotate_left
       ·simp only [Act.put, List.setIfInBounds_toArray, List.set_cons_zero, List.set_cons_succ, i64_w, i32_w]
        rfl
       refine pure_ (i := 9) (N := some 60) (v := ?_) (a' := ?_) #[true, true, true, true, true, false, true, false, false, true, false, false, false, false] rfl rfl (any_of HT_.out (by kernel_rfl)) (fun _ _ _ h => h) (Or.inl ⟨by rfl, ?_⟩) ?_ ?_
       rotate_left
       ·intro w'
        go_simp
        with_reducible rfl
       rotate_left
       ·simp only [Act.put, List.setIfInBounds_toArray, List.set_cons_zero, List.set_cons_succ, i64_w, i32_w]
        rfl
       refine take_ (i := 5) (N := some 56) (v := ?_) (a' := ?_) #[true, true, true, true, true, true, true, false, false, true, false, false, false, false] rfl rfl (take_ofW HT_.out HW_.out (by kernel_rfl)) (fun _ _ _ h => h) (Or.inl ⟨by rfl, ?_⟩) hHeld ?_ ?_
       rotate_left
       ·rintro w' ⟨s0, s1, s2, s3, s4, s5⟩
        go_simp
        with_reducible rfl
       rotate_left
       ·simp only [Act.put, List.setIfInBounds_toArray, List.set_cons_zero, List.set_cons_succ, i64_w, i32_w]
        rfl
       refine take_ (i := 8) (N := some 59) (v := ?_) (a' := ?_) #[true, true, true, true, true, true, true, false, true, true, false, false, false, false] rfl rfl (take_ofW HT_.out HW_.out (by kernel_rfl)) (fun _ _ _ h => h) (Or.inl ⟨by rfl, ?_⟩) hHeld ?_ ?_
       rotate_left
       ·rintro w' ⟨s0, s1, s2, s3, s4, s5⟩
        go_simp
        with_reducible rfl
       rotate_left
       ·simp only [Act.put, List.setIfInBounds_toArray, List.set_cons_zero, List.set_cons_succ, i64_w, i32_w]
        rfl
       refine one_ (i := 7) (N := some 58) (tf 10 4) rfl rfl (one_of HT_.out (by kernel_rfl)) (by decide) (fun K hK => ?_)
       refine goes_ Tryd.func25 (by kernel_rfl) rfl #[.agg #[.string a0_0, .slice A0_1 l0_1.length c0_1, .string a0_2, .slice A0_3 l0_3.length c0_3, .slice A0_4 l0_4.length c0_4, .slice A0_5 l0_5.length c0_5], .int .i64 a1] (by rfl) rfl rfl (bq48) ?_
       with_reducible refine (ir_Line.calls k1 a0_0 _ _ l0_1 a0_2 _ _ l0_3 _ _ l0_4 _ _ l0_5 a1 t586 _ ?side1 ?side2 ?side3 ?side4 ?side5 ?side6 ?side7 ?side8 A38.out).mono ?_
       (case side1 => repeat (first | exact (Kd.C_below HR0_1.out HB.out) | (with_reducible refine Kd.C_alloc ?_ _) | (with_reducible refine Kd.C_drewN ?_ _) | (with_reducible refine Kd.C_drew ?_)))
       (case side2 => exact HC0_1.out)
       (case side3 => repeat (first | exact (Kd.C_below HR0_3.out HB.out) | (with_reducible refine Kd.C_alloc ?_ _) | (with_reducible refine Kd.C_drewN ?_ _) | (with_reducible refine Kd.C_drew ?_)))
       (case side4 => exact HC0_3.out)
       (case side5 => repeat (first | exact (Kd.C_below HR0_4.out HB.out) | (with_reducible refine Kd.C_alloc ?_ _) | (with_reducible refine Kd.C_drewN ?_ _) | (with_reducible refine Kd.C_drew ?_)))
       (case side6 => exact HC0_4.out)
       (case side7 => repeat (first | exact (Kd.C_below HR0_5.out HB.out) | (with_reducible refine Kd.C_alloc ?_ _) | (with_reducible refine Kd.C_drewN ?_ _) | (with_reducible refine Kd.C_drew ?_)))
       (case side8 => exact HC0_5.out)
       rintro e w43 ⟨rfl, hb⟩
       refine ⟨_, rfl, ?_⟩
       have n0_ := Aside0.mk (Kd.R_below (bq74) hb)
       have n1_ := Aside0.mk (blkB BK576.out hb)
       have n2_ := Aside0.mk (below_step (bq46) hb)
       clear HO_5 BK576 HB
       have HO_5 := n0_
       have BK576 := n1_
       have HB := n2_
       clear n0_ n1_ n2_ hb
       refine hK.out _ _ ⟨(blk_cell BK576.out 0).trans rfl, (blk_cell BK576.out 1).trans rfl, (blk_cell BK576.out 2).trans rfl, (blk_cell BK576.out 3).trans rfl, (blk_cell BK576.out 4).trans rfl, (blk_cell BK576.out 5).trans rfl⟩ (fun hHeld => ?_)
       clear hK K
       refine norm_ (a' := ?_) ?_ ?_
       rotate_left
       ·show Act.put _ (some 58) _ = _
        simp only [Act.put, List.setIfInBounds_toArray, List.set_cons_zero, List.set_cons_succ, i64_w, i32_w]
        rfl
       refine one_ (i := 10) (N := some 61) (tf 11 3) rfl rfl (one_of HT_.out (by kernel_rfl)) (by decide) (fun K hK => ?_)
       refine goes_ Tryd.func26 (by kernel_rfl) rfl #[.agg #[.string a0_0, .slice A0_1 l0_1.length c0_1, .string a0_2, .slice A0_3 l0_3.length c0_3, .slice A0_4 l0_4.length c0_4, .slice A0_5 l0_5.length c0_5], .int .i64 a1] (by rfl) rfl rfl (bq48) ?_
       with_reducible refine (truantref08_Line.calls k1 a0_0 _ _ l0_1 a0_2 _ _ l0_3 _ _ l0_4 _ _ l0_5 a1 t587 _ ?side1 ?side2 ?side3 ?side4 ?side5 ?side6 ?side7 ?side8 A39.out).mono ?_
       (case side1 => repeat (first | exact (Kd.C_below HR0_1.out HB.out) | (with_reducible refine Kd.C_alloc ?_ _) | (with_reducible refine Kd.C_drewN ?_ _) | (with_reducible refine Kd.C_drew ?_)))
       (case side2 => exact HC0_1.out)
       (case side3 => repeat (first | exact (Kd.C_below HR0_3.out HB.out) | (with_reducible refine Kd.C_alloc ?_ _) | (with_reducible refine Kd.C_drewN ?_ _) | (with_reducible refine Kd.C_drew ?_)))
       (case side4 => exact HC0_3.out)
       (case side5 => repeat (first | exact (Kd.C_below HR0_4.out HB.out) | (with_reducible refine Kd.C_alloc ?_ _) | (with_reducible refine Kd.C_drewN ?_ _) | (with_reducible refine Kd.C_drew ?_)))
       (case side6 => exact HC0_4.out)
       (case side7 => repeat (first | exact (Kd.C_below HR0_5.out HB.out) | (with_reducible refine Kd.C_alloc ?_ _) | (with_reducible refine Kd.C_drewN ?_ _) | (with_reducible refine Kd.C_drew ?_)))
       (case side8 => exact HC0_5.out)
       rintro e w44 ⟨rfl, hb⟩
       refine ⟨_, rfl, ?_⟩
       have n0_ := Aside0.mk (Kd.R_below (bq74) hb)
       have n1_ := Aside0.mk (blkB BK576.out hb)
       have n2_ := Aside0.mk (below_step (bq46) hb)
       clear HO_5 BK576 HB
       have HO_5 := n0_
       have BK576 := n1_
       have HB := n2_
       clear n0_ n1_ n2_ hb
       refine hK.out _ _ ⟨(blk_cell BK576.out 0).trans rfl, (blk_cell BK576.out 1).trans rfl, (blk_cell BK576.out 2).trans rfl, (blk_cell BK576.out 3).trans rfl, (blk_cell BK576.out 4).trans rfl, (blk_cell BK576.out 5).trans rfl⟩ (fun hHeld => ?_)
       clear hK K
       refine norm_ (a' := ?_) ?_ ?_
       rotate_left
       ·show Act.put _ (some 61) _ = _
        simp only [Act.put, List.setIfInBounds_toArray, List.set_cons_zero, List.set_cons_succ, i64_w, i32_w]
        rfl
       refine pure_ (i := 11) (N := some 62) (v := ?_) (a' := ?_) (tf 12 2) rfl rfl (any_of HT_.out (by kernel_rfl)) (fun _ _ _ h => h) (Or.inl ⟨by rfl, ?_⟩) ?_ ?_
       rotate_left
       ·intro w'
        go_simp
        with_reducible rfl
       rotate_left
       ·simp only [Act.put, List.setIfInBounds_toArray, List.set_cons_zero, List.set_cons_succ, i64_w, i32_w]
        rfl
       refine pure_ (i := 12) (N := some 63) (v := ?_) (a' := ?_) (tf 13 1) rfl rfl (any_of HT_.out (by kernel_rfl)) (fun _ _ _ h => h) (Or.inl ⟨by rfl, ?_⟩) ?_ ?_
       rotate_left
       ·intro w'
        go_simp
        with_reducible rfl
       rotate_left
       ·simp only [Act.put, List.setIfInBounds_toArray, List.set_cons_zero, List.set_cons_succ, i64_w, i32_w]
        rfl
       refine pure_ (i := 13) (N := some 4) (v := ?_) (a' := ?_) (tf 14 0) rfl rfl (any_of HT_.out (by kernel_rfl)) (fun _ _ _ h => h) (Or.inl ⟨by rfl, ?_⟩) ?_ ?_
       rotate_left
       ·intro w'
        go_simp
        with_reducible rfl
       rotate_left
       ·simp only [Act.put, List.setIfInBounds_toArray, List.set_cons_zero, List.set_cons_succ, i64_w, i32_w]
        rfl
       refine done_ (done_of HT_.out (by kernel_rfl)) ?_
       try go_wp2
       go_ret
       exact ⟨by first | rfl | (simp [errW_none, errW_some] <;> rfl) | (simp [*, errW_none, errW_some] <;> rfl), bq46⟩
      ·rw [if_neg c37] at H
       exact absurd H (by simp)
 ·replace c4 := Bool.eq_false_iff.mpr c4
  subst c4
  have H1 := H; rw [if_neg (show ¬ (false = true) by decide)] at H1; (try dsimp only at H1)
  clear H
  have H := H1
  clear H1
  exact absurd H (by simp)
end Go.Proofs.YtkiiojgaaoaipaaDoor.Q
/- How an argument of a type reads: out of the form's reading comes the value that the printed walks take. -/
namespace Go.Proofs.YtkiiojgaaoaipaaDoor.Q
open Go.RowKit Go.Proofs.YtkiiojgaaoaipaaDoorW.PrintWords Go.Proofs.YtkiiojgaaoaipaaDoorW.PrintLast Go.Proofs.YtkiiojgaaoaipaaDoorW.PrintMore
set_option linter.unusedVariables false
set_option linter.unusedSimpArgs false
section
variable {P : Program}
theorem choose_list {α : Type} {p : Nat → α → Prop} : ∀ {n : Nat}, (∀ i, i < n → ∃ y, p i y) → ∃ ys : List α, ys.length = n ∧ ∀ i y, ys[i]? = some y → p i y
 | 0, _ => ⟨[], rfl, fun i y h => by simp at h⟩
 | n + 1, h => by
  obtain ⟨ys, hl, hy⟩ := choose_list (n := n) (fun i hi => h i (by omega))
  obtain ⟨y, hp⟩ := h n (by omega)
  refine ⟨ys ++ [y], by simp [hl], fun i z hz => ?_⟩
  by_cases hi : i < n
  ·rw [List.getElem?_append_left (by omega)] at hz
   exact hy i z hz
  ·have := (List.getElem?_eq_some_iff.mp hz).1
   simp at this
   have e : i = n := by omega
   subst e
   rw [List.getElem?_append_right (by omega)] at hz
   simp [hl] at hz
   subst hz
   exact hp
end
theorem bulk_one {H : Type} (d : DataW H) : 1 ≤ Rows.uptoBulk d := by
 cases d with
 | lit l => cases l <;> simp [Rows.uptoBulk]
 | nil => simp [Rows.uptoBulk]
 | ptr d => simp [Rows.uptoBulk]
 | slice elems spare => simp [Rows.uptoBulk]
 | agg parts => simp [Rows.uptoBulk]
 | iface t d => simp [Rows.uptoBulk]
 | map entries => simp [Rows.uptoBulk]
 | held h => simp [Rows.uptoBulk]
theorem bulk_part {H : Type} {d : DataW H} {l : List (DataW H)} (h : d ∈ l) : Rows.uptoBulk d ≤ Rows.uptoBulkAll l := by
 induction l with
 | nil => cases h
 | cons x r ih =>
  simp only [Rows.uptoBulkAll]
  cases List.mem_cons.1 h with
  | inl e => subst e; omega
  | inr e => have := ih e; omega
theorem bulk_length {H : Type} (l : List (DataW H)) : l.length ≤ Rows.uptoBulkAll l := by
 induction l with
 | nil => simp [Rows.uptoBulkAll]
 | cons x r ih => have := bulk_one x; simp only [Rows.uptoBulkAll, List.length_cons]; omega
/-- What reads at type t reads as a value of kind K, of which Q holds. -/
structure OpensB {α : Type} (P : Program) (t : TypeId) (K : Kd α) (Q : α → Prop) : Prop where
 out : ∀ {H : Type} {enc : TypeId × Value → H} {W : World} {base : Nat} {sp : Nat → Bool} {held : Bool} {fuel : Nat} {cs : List Value} {x : DataW H × List MemPlace},
  Rows.uptoBulk x.1 ≤ 1048576 → DataW.trod enc P W base sp held fuel t cs = some x → ∃ y, K.K W y cs ∧ Q y
section
variable {P : Program}
theorem opensB_string {t : TypeId} (ht : P.underlying t = some .string) : OpensB P t Kd.string (fun s => s.size ≤ 1048576) := by
 constructor
 intro H enc W base sp held fuel cs x hw h
 obtain ⟨s, rfl, rfl, hs⟩ : ∃ s : ByteArray, cs = [.string s] ∧ x = (.lit (.string s.data.toList), []) ∧ s.size ≤ maxLen := by
  cases fuel with
  | zero => simp [DataW.trod] at h
  | succ n =>
   unfold DataW.trod at h
   rw [ht] at h
   split at h <;> simp_all
 refine ⟨s, rfl, ?_⟩
 have h1 : Rows.uptoBulk (DataW.lit (H := H) (.string s.data.toList)) = s.data.toList.length + 1 := by simp [Rows.uptoBulk]
 have h2 : s.data.toList.length = s.size := by rw [Array.length_toList]; rfl
 simp only [h1] at hw
 omega
theorem opensB_int {t : TypeId} {q : IntKind} (ht : P.underlying t = some (.int q)) : OpensB P t (Kd.int q) (fun n => (Lit.int q n).wf = true) := by
 constructor
 intro H enc W base sp held fuel cs x hw h
 obtain ⟨n, rfl, hs⟩ : ∃ n : Int, cs = [.int q n] ∧ (Lit.int q n).wf = true := by
  cases fuel with
  | zero => simp [DataW.trod] at h
  | succ n =>
   unfold DataW.trod at h
   rw [ht] at h
   split at h <;> simp_all
 exact ⟨n, rfl, hs⟩
theorem opensB_slice {α : Type} {t e : TypeId} {K : Kd α} {Q : α → Prop} (he : OpensB P e K Q) (ht : P.underlying t = some (.slice e)) (hc : P.cellsOf e = K.sz) (bytes : Nat) (hb : P.bytesOf e = bytes) :
  OpensB P t (Kd.slice e K) (fun l => l.length ≤ 1048576 ∧ ∀ x ∈ l, Q x) := by
 constructor
 intro H enc W base sp held fuel cs x hw h
 rcases Deep.open_slice ht h with ⟨rfl, rfl⟩ | ⟨a, len, cap, m, n, D, Pl, rfl, _, hl, hm, hmm, rfl, hel⟩
 ·exact ⟨[], ⟨none, 0, rfl, Nat.le_refl _, Kd.C_nil K W⟩, by simp, by simp⟩
 ·have hlm : len ≤ m := by rw [hmm]; split <;> omega
  simp only [Rows.uptoBulk] at hw
  have hw' : ∀ i, i < len → Rows.uptoBulk (D i) ≤ 1048576 := fun i hi => by
   have := bulk_part (List.mem_map.mpr ⟨i, by simpa using hi, rfl⟩ : D i ∈ (List.range len).map D)
   omega
  obtain ⟨ys, hys, hY⟩ := choose_list (n := len) (p := fun i y => (∃ c, c.length = K.sz ∧ K.K W y c ∧ ∀ j u, c[j]? = some u → W.cell? (a.add (i * K.sz + j)) = some u) ∧ Q y) (fun i hi => by
   obtain ⟨c, h1, h2⟩ := hel i (by omega)
   obtain ⟨y, hy, hq⟩ := he.out (hw' i hi) h2
   obtain ⟨_, h3, h4⟩ := World.cells?_some h1
   rw [hc] at h3 h4
   refine ⟨y, ⟨c, h3, hy, fun j u hu => ?_⟩, hq⟩
   have hj : j < K.sz := by
    have := (List.getElem?_eq_some_iff.mp hu).1
    omega
   have h5 := h4 j hj
   rw [Addr.add_add] at h5
   rw [h5, hu])
  have hlen : len ≤ maxLen := by omega
  refine ⟨ys, ⟨some a, cap, by rw [hys], by omega, rfl, by rw [hys]; unfold maxLen at hlen; omega, fun _ => ⟨a, rfl, fun j p hj => (hY j p hj).1⟩⟩, ?_, ?_⟩
  ·have := bulk_length ((List.range len).map D)
   rw [List.length_map, List.length_range] at this
   rw [hys]
   omega
  ·intro x hx
   obtain ⟨i, hi, rfl⟩ := List.mem_iff_getElem.mp hx
   exact (hY i _ (List.getElem?_eq_getElem hi)).2
/-- The fields from one on. -/
structure OpensFB {α : Type} (P : Program) (fs : List Field) (off : Nat) (K : Kd α) (Q : α → Prop) : Prop where
 out : ∀ {H : Type} {enc : TypeId × Value → H} {W : World} {base : Nat} {sp : Nat → Bool} {held : Bool} {fuel : Nat} {cs : List Value} {xs : List (DataW H × List MemPlace)},
  cs.length = off + K.sz → Rows.uptoBulkAll (xs.map (·.1)) ≤ 1048576 → (fs.mapM fun f => DataW.trod enc P W base sp held fuel f.type ((cs.drop f.offset).take (P.cellsOf f.type))) = some xs → ∃ y, K.K W y (cs.drop off) ∧ Q y
theorem opensFB_last {α : Type} {f : Field} {off t : Nat} {K : Kd α} {Q : α → Prop} (h : OpensB P t K Q) (h0 : f.type = t) (hc : P.cellsOf t = K.sz) (ho : f.offset = off) : OpensFB P [f] off K Q := by
 constructor
 intro H enc W base sp held fuel cs xs hl hw hm
 subst h0
 simp only [List.mapM_cons, List.mapM_nil, Option.pure_def, Option.bind_eq_bind, Option.bind_some] at hm
 obtain ⟨x, hx, hm⟩ := Option.bind_eq_some_iff.mp hm
 obtain rfl := Option.some.inj hm
 rw [hc, ho, List.take_of_length_le (by rw [List.length_drop]; omega)] at hx
 exact h.out (by simpa [Rows.uptoBulkAll] using hw) hx
theorem opensFB_cons {α β : Type} {f : Field} {fs : List Field} {off t : Nat} {K : Kd α} {K1 : Kd β} {Q : α → Prop} {Q1 : β → Prop} (h : OpensB P t K Q) (h0 : f.type = t) (hc : P.cellsOf t = K.sz) (ho : f.offset = off) (h1 : OpensFB P fs (off + K.sz) K1 Q1) :
  OpensFB P (f :: fs) off (Kd.pair K K1) (fun p => Q p.1 ∧ Q1 p.2) := by
 constructor
 intro H enc W base sp held fuel cs xs hl hw hm
 subst h0
 have hl : cs.length = off + (K.sz + K1.sz) := hl
 rw [List.mapM_cons] at hm
 simp only [Option.pure_def, Option.bind_eq_bind] at hm
 obtain ⟨x, hx, hm⟩ := Option.bind_eq_some_iff.mp hm
 obtain ⟨xs', hxs, hm⟩ := Option.bind_eq_some_iff.mp hm
 obtain rfl := Option.some.inj hm
 rw [hc, ho] at hx
 simp only [List.map_cons, Rows.uptoBulkAll] at hw
 obtain ⟨y, hy, hq⟩ := h.out (by omega) hx
 obtain ⟨z, hz, hq1⟩ := h1.out (by omega) (by omega) hxs
 refine ⟨(y, z), ⟨(cs.drop off).take K.sz, cs.drop (off + K.sz), ?_, hy, hz⟩, hq, hq1⟩
 rw [← List.drop_drop, List.take_append_drop]
theorem opensB_struct {α β : Type} {t : TypeId} {fs : Array Field} {K : Kd α} {Q : α → Prop} (ht : P.underlying t = some (.struct fs)) (h : OpensFB P fs.toList 0 K Q) (hc : P.cellsOf t = K.sz) (g : β → α) (g' : α → β) (hg : ∀ y, g (g' y) = y) : OpensB P t (Kd.iso K g) (fun x => Q (g x)) := by
 constructor
 intro H enc W base sp held fuel cs x hw hm
 cases fuel with
 | zero => simp [DataW.trod] at hm
 | succ n =>
  unfold DataW.trod at hm
  rw [ht] at hm
  simp only at hm
  split at hm
  ·rename_i hl
   obtain ⟨xs, hxs, rfl⟩ := Option.map_eq_some_iff.mp hm
   obtain ⟨y, hy, hq⟩ := h.out (cs := cs) (xs := xs) (by rw [hl, hc]; omega) (by simp only [Rows.uptoBulk] at hw; omega) hxs
   exact ⟨g' y, by show K.K W (g (g' y)) cs; rw [hg]; simpa using hy, by show Q (g (g' y)); rw [hg]; exact hq⟩
  ·cases hm
theorem opensB_array2 {α β : Type} {t e : TypeId} {K : Kd α} {Q : α → Prop} {k : Kd β} {WF : β → Prop} (mk : α → α → β) (g : β → α × α) (he : OpensB P e K Q) (ht : P.underlying t = some (.array 2 e)) (hsz : K.sz = 1) (hce : P.cellsOf e = 1) (hct : P.cellsOf t = 2) (hk : k = Kd.iso (Kd.pair K K) g) (hg : ∀ x y, g (mk x y) = (x, y)) (hQ : ∀ x y, Q x → Q y → WF (mk x y)) : OpensB P t k WF := by
 subst hk
 constructor
 intro H enc W base sp held fuel cs x hw hm
 obtain ⟨xs, m, rfl, rfl, hl, hn, hi⟩ := DataW.trod_array ht hm
 rw [hct] at hl
 simp only [Rows.uptoBulk] at hw
 have hwx : ∀ d, d ∈ xs.map (·.1) → Rows.uptoBulk d ≤ 1048576 := fun d hd => by have := bulk_part hd; omega
 obtain ⟨d0, d1, rfl⟩ : ∃ d0 d1, xs = [d0, d1] := by
  match xs, hn with
  | [a, b], _ => exact ⟨a, b, rfl⟩
 obtain ⟨c0, c1, rfl⟩ : ∃ c0 c1, cs = [c0, c1] := by
  match cs, hl with
  | [a, b], _ => exact ⟨a, b, rfl⟩
 have h0 := hi 0 (by omega)
 have h1 := hi 1 (by omega)
 rw [hce] at h0 h1
 obtain ⟨y0, hy0, q0⟩ := he.out (hwx d0.1 (by simp)) (show _ = some d0 from h0)
 obtain ⟨y1, hy1, q1⟩ := he.out (hwx d1.1 (by simp)) (show _ = some d1 from h1)
 refine ⟨mk y0 y1, ?_, hQ _ _ q0 q1⟩
 show (Kd.pair K K).K W (g (mk y0 y1)) [c0, c1]
 rw [hg]
 exact ⟨[c0], [c1], rfl, hy0, hy1⟩
theorem opensB_struct' {α β : Type} {t : TypeId} {fs : Array Field} {K : Kd α} {Q : α → Prop} {k : Kd β} {WF : β → Prop} (g' : α → β) (g : β → α) (ht : P.underlying t = some (.struct fs)) (h : OpensFB P fs.toList 0 K Q) (hc : P.cellsOf t = K.sz) (hk : k = Kd.iso K g) (hg : ∀ y, g (g' y) = y) (hQ : ∀ x, Q (g x) → WF x) : OpensB P t k WF := by
 subst hk
 constructor
 intro H enc W base sp held fuel cs x hw hm
 obtain ⟨y, h1, h2⟩ := (opensB_struct ht h hc g g' hg).out hw hm
 exact ⟨y, h1, hQ y h2⟩
end
def WFB47 (x : S47) : Prop := ((fun n : Int => (Lit.int .i64 n).wf = true) x.f0) ∧ ((fun s : ByteArray => s.size ≤ 1048576) x.f1) ∧ ((fun l : List Int => l.length ≤ 1048576 ∧ ∀ x ∈ l, (fun n : Int => (Lit.int .i64 n).wf = true) x) x.f2) ∧ ((fun n : Int => (Lit.int .i64 n).wf = true) x.f3) ∧ ((fun s : ByteArray => s.size ≤ 1048576) x.f4)
theorem opensB47 : OpensB Tryd.prog 47 k47 WFB47 :=
 opensB_struct' (fun p : (Int) × (ByteArray) × (List Int) × (Int) × (ByteArray) => (⟨p.1, p.2.1, p.2.2.1, p.2.2.2.1, p.2.2.2.2⟩ : S47)) (fun x : S47 => (x.f0, x.f1, x.f2, x.f3, x.f4)) Tryd.underlying47 (opensFB_cons (opensB_int Tryd.underlying3) rfl (by kernel_rfl) rfl (opensFB_cons (opensB_string Tryd.underlying9) rfl (by kernel_rfl) rfl (opensFB_cons (opensB_slice (opensB_int Tryd.underlying3) Tryd.underlying42 (by kernel_rfl) 8 (by kernel_rfl)) rfl (by kernel_rfl) rfl (opensFB_cons (opensB_int Tryd.underlying3) rfl (by kernel_rfl) rfl (opensFB_last (opensB_string Tryd.underlying9) rfl (by kernel_rfl) rfl))))) (by kernel_rfl) rfl (fun _ => rfl) (fun _ h => h)
def WFB51 (x : S51) : Prop := ((fun n : Int => (Lit.int .i64 n).wf = true) x.f0) ∧ ((fun n : Int => (Lit.int .i64 n).wf = true) x.f1)
theorem opensB51 : OpensB Tryd.prog 51 k51 WFB51 :=
 opensB_array2 (fun x y => (⟨x, y⟩ : S51)) (fun x : S51 => (x.f0, x.f1)) (opensB_int Tryd.underlying3) Tryd.underlying51 rfl (by kernel_rfl) (by kernel_rfl) rfl (fun _ _ => rfl) (fun _ _ hx hy => ⟨hx, hy⟩)
def WFB53 (x : S53) : Prop := ((fun l : List Int => l.length ≤ 1048576 ∧ ∀ x ∈ l, (fun n : Int => (Lit.int .i64 n).wf = true) x) x.f0) ∧ ((fun n : Int => (Lit.int .i64 n).wf = true) x.f1) ∧ ((fun n : Int => (Lit.int .i64 n).wf = true) x.f2) ∧ (WFB51 x.f3)
theorem opensB53 : OpensB Tryd.prog 53 k53 WFB53 :=
 opensB_struct' (fun p : (List Int) × (Int) × (Int) × (S51) => (⟨p.1, p.2.1, p.2.2.1, p.2.2.2⟩ : S53)) (fun x : S53 => (x.f0, x.f1, x.f2, x.f3)) Tryd.underlying53 (opensFB_cons (opensB_slice (opensB_int Tryd.underlying3) Tryd.underlying42 (by kernel_rfl) 8 (by kernel_rfl)) rfl (by kernel_rfl) rfl (opensFB_cons (opensB_int Tryd.underlying3) rfl (by kernel_rfl) rfl (opensFB_cons (opensB_int Tryd.underlying3) rfl (by kernel_rfl) rfl (opensFB_last opensB51 rfl (by kernel_rfl) rfl)))) (by kernel_rfl) rfl (fun _ => rfl) (fun _ h => h)
def WFB40 (x : S40) : Prop := ((fun s : ByteArray => s.size ≤ 1048576) x.f0) ∧ ((fun l : List ByteArray => l.length ≤ 1048576 ∧ ∀ x ∈ l, (fun s : ByteArray => s.size ≤ 1048576) x) x.f1) ∧ ((fun s : ByteArray => s.size ≤ 1048576) x.f2) ∧ ((fun l : List ByteArray => l.length ≤ 1048576 ∧ ∀ x ∈ l, (fun s : ByteArray => s.size ≤ 1048576) x) x.f3) ∧ ((fun l : List (S47) => l.length ≤ 1048576 ∧ ∀ x ∈ l, WFB47 x) x.f4) ∧ ((fun l : List (S53) => l.length ≤ 1048576 ∧ ∀ x ∈ l, WFB53 x) x.f5)
theorem opensB40 : OpensB Tryd.prog 40 k40 WFB40 :=
 opensB_struct' (fun p : (ByteArray) × (List ByteArray) × (ByteArray) × (List ByteArray) × (List (S47)) × (List (S53)) => (⟨p.1, p.2.1, p.2.2.1, p.2.2.2.1, p.2.2.2.2.1, p.2.2.2.2.2⟩ : S40)) (fun x : S40 => (x.f0, x.f1, x.f2, x.f3, x.f4, x.f5)) Tryd.underlying40 (opensFB_cons (opensB_string Tryd.underlying9) rfl (by kernel_rfl) rfl (opensFB_cons (opensB_slice (opensB_string Tryd.underlying9) Tryd.underlying31 (by kernel_rfl) 16 (by kernel_rfl)) rfl (by kernel_rfl) rfl (opensFB_cons (opensB_string Tryd.underlying9) rfl (by kernel_rfl) rfl (opensFB_cons (opensB_slice (opensB_string Tryd.underlying9) Tryd.underlying31 (by kernel_rfl) 16 (by kernel_rfl)) rfl (by kernel_rfl) rfl (opensFB_cons (opensB_slice opensB47 Tryd.underlying37 (by kernel_rfl) 72 (by kernel_rfl)) rfl (by kernel_rfl) rfl (opensFB_last (opensB_slice opensB53 Tryd.underlying38 (by kernel_rfl) 56 (by kernel_rfl)) rfl (by kernel_rfl) rfl)))))) (by kernel_rfl) rfl (fun _ => rfl) (fun _ h => h)
def IrUses.PureU : Prop := ∀ (a0_0 : ByteArray) (l0_1 : List ByteArray) (a0_2 : ByteArray) (l0_3 : List ByteArray) (l0_4 : List (S47)) (l0_5 : List (S53)) (a1 : Int), WFB40 ⟨a0_0, l0_1, a0_2, l0_3, l0_4, l0_5⟩ → (fun n : Int => (Lit.int .i64 n).wf = true) a1 → ∃ k, truantlaw08_IrUses.f k a0_0 l0_1 a0_2 l0_3 l0_4 l0_5 a1 = some true
section
variable {α : Type}
theorem Ev.pos {c : Prop} [Decidable c] {A B : Nat → Option α} {r : α} (h : c) (k : Ev A r) : Ev (fun n => if c then A n else B n) r := Ev.congr (fun n => if_pos h) k
theorem Ev.neg {c : Prop} [Decidable c] {A B : Nat → Option α} {r : α} (h : ¬ c) (k : Ev B r) : Ev (fun n => if c then A n else B n) r := Ev.congr (fun n => if_neg h) k
theorem Ev.one {β : Type} {a : Option β} {b : β} {f : Nat → β → Option α} {r : α} (h : a = some b) (k : Ev (fun n => f n b) r) : Ev (fun n => a.bind (f n)) r := Ev.congr (fun n => by rw [h]; rfl) k
theorem Ev.eq {g : Nat → Option α} {r r' : α} (k : Ev g r) (h : r = r') : Ev g r' := h ▸ k
end
/-- Those below n of whom p holds, in order. -/
def ascTo (p : Nat → Bool) : Nat → List Int
 | 0 => []
 | k + 1 => if p k = true then ascTo p k ++ [(k : Int)] else ascTo p k
theorem asc_mem (p : Nat → Bool) : ∀ n x, x ∈ ascTo p n ↔ 0 ≤ x ∧ x < (n : Int) ∧ p x.toNat = true
 | 0, x => by
  constructor
  ·intro h; cases h
  ·intro h; omega
 | n + 1, x => by
  unfold ascTo
  split
  ·rename_i hp
   rw [List.mem_append, List.mem_singleton, asc_mem p n]
   constructor
   ·rintro (h | rfl)
    ·exact ⟨h.1, by omega, h.2.2⟩
    ·exact ⟨by omega, by omega, by rw [Int.toNat_natCast]; exact hp⟩
   ·rintro ⟨h0, h1, h2⟩
    by_cases e : x = (n : Int)
    ·exact .inr e
    ·exact .inl ⟨h0, by omega, h2⟩
  ·rename_i hp
   rw [asc_mem p n]
   constructor
   ·rintro h; exact ⟨h.1, by omega, h.2.2⟩
   ·rintro ⟨h0, h1, h2⟩
    by_cases e : x = (n : Int)
    ·rw [e, Int.toNat_natCast] at h2; exact absurd h2 hp
    ·exact ⟨h0, by omega, h2⟩
theorem asc_up (p : Nat → Bool) : ∀ n, (ascTo p n).Pairwise (· < ·)
 | 0 => List.Pairwise.nil
 | n + 1 => by
  unfold ascTo
  split
  ·refine List.pairwise_append.mpr ⟨asc_up p n, List.pairwise_singleton _ _, fun y hy z hz => ?_⟩
   rw [List.mem_singleton] at hz; subst hz
   exact ((asc_mem p n y).mp hy).2.1
  ·exact asc_up p n
theorem asc_len (p : Nat → Bool) : ∀ n, (ascTo p n).length ≤ n
 | 0 => Nat.le_refl _
 | n + 1 => by unfold ascTo; have := asc_len p n; split <;> simp <;> omega
theorem asc_at (p : Nat → Bool) {k : Nat} (hk : p k = true) : ∀ n, k < n → (ascTo p k).length < (ascTo p n).length ∧ rd (ascTo p n) ((ascTo p k).length : Int) = (k : Int)
 | 0, h => by omega
 | n + 1, h => by
  by_cases e : k = n
  ·subst e
   have e2 : ascTo p (k + 1) = ascTo p k ++ [(k : Int)] := if_pos hk
   rw [e2, List.length_append, List.length_singleton]
   refine ⟨by omega, ?_⟩
   unfold rd
   rw [Int.toNat_natCast, getD_at _ _ (by simp), List.getElem_append_right (Nat.le_refl _)]
   simp
  ·obtain ⟨h1, h2⟩ := asc_at p hk n (by omega)
   unfold rd at h2 ⊢
   rw [Int.toNat_natCast, getD_at _ _ h1] at h2
   have e2 : ∃ t, ascTo p (n + 1) = ascTo p n ++ t := by
    by_cases hp : p n = true
    ·exact ⟨[(n : Int)], if_pos hp⟩
    ·exact ⟨[], by rw [List.append_nil]; exact if_neg hp⟩
   obtain ⟨t, e2⟩ := e2
   rw [e2, Int.toNat_natCast]
   refine ⟨by rw [List.length_append]; omega, ?_⟩
   rw [getD_at _ _ (by rw [List.length_append]; omega), List.getElem_append_left h1]
   exact h2
/-- Two rows in order with the same elements are the same. -/
theorem asc_eq : ∀ {a b : List Int}, a.Pairwise (· < ·) → b.Pairwise (· < ·) → (∀ x, x ∈ a ↔ x ∈ b) → a = b
 | [], [], _, _, _ => rfl
 | [], y :: b, _, _, h => absurd ((h y).mpr List.mem_cons_self) (by simp)
 | x :: a, [], _, _, h => absurd ((h x).mp List.mem_cons_self) (by simp)
 | x :: a, y :: b, h1, h2, h => by
  rw [List.pairwise_cons] at h1 h2
  have e : x = y := by
   have q1 := (h x).mp List.mem_cons_self
   have q2 := (h y).mpr List.mem_cons_self
   rcases List.mem_cons.mp q1 with q1 | q1
   ·exact q1
   ·rcases List.mem_cons.mp q2 with q2 | q2
    ·exact q2.symm
    ·have := h1.1 y q2; have := h2.1 x q1; omega
  subst e
  congr 1
  refine asc_eq h1.2 h2.2 (fun z => ?_)
  have := h z
  rw [List.mem_cons, List.mem_cons] at this
  constructor
  ·intro hz
   rcases this.mp (.inr hz) with e | e
   ·have := h1.1 z hz; omega
   ·exact e
  ·intro hz
   rcases this.mpr (.inr hz) with e | e
   ·have := h2.1 z hz; omega
   ·exact e
theorem compact_upto (xs : List Int) (hs : ∀ i j, i ≤ j → j < xs.length → xs.getD i 0 ≤ xs.getD j 0) : ∀ m, m ≤ xs.length → (Lib.compactUpTo xs.toArray m).Pairwise (· < ·) ∧ (∀ y ∈ Lib.compactUpTo xs.toArray m, ∃ j, j < m ∧ y = xs.getD j 0) ∧ (∀ j, j < m → xs.getD j 0 ∈ Lib.compactUpTo xs.toArray m)
 | 0, _ => ⟨by simp [Lib.compactUpTo], fun y hy => by simp [Lib.compactUpTo] at hy, fun j hj => by omega⟩
 | m + 1, hm => by
  obtain ⟨h1, h2, h3⟩ := compact_upto xs hs m (by omega)
  have em : xs.toArray[m]! = xs.getD m 0 := by rw [getD_at _ _ (by omega)]; simp [show m < xs.length by omega]
  rw [Lib.compactUpTo_succ, em]
  by_cases hk : Lib.keeps xs.toArray m = true
  ·rw [if_pos hk]
   refine ⟨List.pairwise_append.mpr ⟨h1, List.pairwise_singleton _ _, fun y hy z hz => ?_⟩, fun y hy => ?_, fun j hj => ?_⟩
   ·rw [List.mem_singleton] at hz; subst hz
    obtain ⟨j, hj, rfl⟩ := h2 y hy
    have em1 : xs.toArray[m - 1]! = xs.getD (m - 1) 0 := by rw [getD_at _ _ (by omega)]; simp [show m - 1 < xs.length by omega]
    unfold Lib.keeps at hk
    have hk2 := (of_decide_eq_true hk).resolve_left (by omega)
    rw [em, em1] at hk2
    have := hs j (m - 1) (by omega) (by omega)
    have := hs (m - 1) m (by omega) (by omega)
    omega
   ·rcases List.mem_append.mp hy with hy | hy
    ·obtain ⟨j, hj, e⟩ := h2 y hy; exact ⟨j, by omega, e⟩
    ·rw [List.mem_singleton] at hy; exact ⟨m, by omega, hy⟩
   ·by_cases e : j = m
    ·subst e; simp
    ·exact List.mem_append_left _ (h3 j (by omega))
  ·have hk' : Lib.keeps xs.toArray m = false := by simpa using hk
   rw [if_neg hk, List.append_nil]
   unfold Lib.keeps at hk'
   have hk2 := of_decide_eq_false hk'
   have hm0 : m ≠ 0 := fun e => hk2 (.inl e)
   have em1 : xs.toArray[m - 1]! = xs.getD (m - 1) 0 := by rw [getD_at _ _ (by omega)]; simp [show m - 1 < xs.length by omega]
   have e : xs.getD m 0 = xs.getD (m - 1) 0 := by
    rw [← em, ← em1]
    exact Classical.byContradiction (fun q => hk2 (.inr q))
   refine ⟨h1, fun y hy => ?_, fun j hj => ?_⟩
   ·obtain ⟨j, hj, e⟩ := h2 y hy; exact ⟨j, by omega, e⟩
   ·by_cases ej : j = m
    ·subst ej; rw [e]; exact h3 (j - 1) (by omega)
    ·exact h3 j (by omega)
theorem sort_le (L : List Int) : (L.mergeSort fun x y => decide (x ≤ y)).Pairwise (· ≤ ·) := by
 have h := List.pairwise_mergeSort (le := fun x y : Int => decide (x ≤ y)) (fun a b c h1 h2 => by simp at h1 h2 ⊢; omega) (fun a b => by simp; omega) L
 exact h.imp (fun h => by simpa using h)
theorem sort_mono (L : List Int) : ∀ i j, i ≤ j → j < (L.mergeSort fun x y => decide (x ≤ y)).length → (L.mergeSort fun x y => decide (x ≤ y)).getD i 0 ≤ (L.mergeSort fun x y => decide (x ≤ y)).getD j 0 := fun i j hij hj => by
 by_cases e : i = j
 ·subst e; exact Int.le_refl _
 ·rw [getD_at _ _ (by omega), getD_at _ _ hj]
  exact List.pairwise_iff_getElem.mp (sort_le L) i j (by omega) hj (by omega)
/-- Sorted, and without what stands there twice. -/
theorem sortC_asc (L : List Int) (n : Nat) (p : Nat → Bool) (h : ∀ x, x ∈ L ↔ 0 ≤ x ∧ x < (n : Int) ∧ p x.toNat = true) : sortC L = ascTo p n := by
 obtain ⟨S, hS⟩ : ∃ S, S = L.mergeSort fun x y => decide (x ≤ y) := ⟨_, rfl⟩
 have hm := sort_mono L
 rw [← hS] at hm
 obtain ⟨h1, h2, h3⟩ := compact_upto S hm S.length (Nat.le_refl _)
 have e : sortC L = Lib.compactUpTo S.toArray S.length := by unfold sortC Lib.compact; rw [hS]
 rw [e]
 refine asc_eq h1 (asc_up p n) (fun x => ?_)
 rw [asc_mem, ← h]
 have hmem : x ∈ S ↔ x ∈ L := by rw [hS]; exact List.mem_mergeSort
 rw [← hmem]
 constructor
 ·intro hx
  obtain ⟨j, hj, rfl⟩ := h2 x hx
  rw [getD_at _ _ hj]
  exact List.getElem_mem hj
 ·intro hx
  obtain ⟨j, hj, rfl⟩ := List.mem_iff_getElem.mp hx
  rw [← getD_at S 0 hj]
  exact h3 j hj
def R64 (x : Int) : Prop := -9223372036854775808 ≤ x ∧ x ≤ 9223372036854775807
theorem R64.of {x : Int} (h : (fun n : Int => (Lit.int .i64 n).wf = true) x) : R64 x := by
 have : (Lit.int .i64 x).wf = true := h
 simpa [Lit.wf, IntKind.min, IntKind.max, IntKind.signed, IntKind.bits, R64] using this
theorem app_tl (a b : ByteArray) : (a ++ b).toList = a.toList ++ b.toList := by rw [Lib.toList_data, Lib.toList_data, Lib.toList_data, ByteArray.data_append, Array.toList_append]
theorem one_tl {x : Int} (h0 : 0 ≤ x) : (strOfNums [x]).toList = [UInt8.ofNat x.toNat] := by
 rw [Lib.toList_data]; simp [strOfNums]
theorem nd_le {u : Nat} (h : u < 18446744073709551616) : Lib.nDigits u ≤ 20 := Lib.nDigits_le20 u h
/-- What is left to write: the digits of n, ahead of s; and the sign. -/
def signed (b : Bool) (l : List UInt8) : List UInt8 := if b then 45 :: l else l
theorem text_end (s : ByteArray) (b : Bool) (hs : s.toList ≠ []) (hz : s.size ≤ 40) : ∃ t : ByteArray, t.toList = signed b s.toList ∧ Ev (fun k => truantref01_Text.l0 k 0 s b) t := by
 cases b with
 | false => exact ⟨s, rfl, 2, fun k hk => by obtain ⟨k, rfl⟩ : ∃ m, k = m + 2 := ⟨k - 2, by omega⟩; simp [truantref01_Text.l0, truantref01_Text.j1, hs]⟩
 | true =>
  refine ⟨⟨#[45]⟩ ++ s, ?_, 2, fun k hk => ?_⟩
  ·rw [app_tl]; rw [show (⟨#[45]⟩ : ByteArray).toList = [45] by rw [Lib.toList_data]]; rfl
  ·obtain ⟨k, rfl⟩ : ∃ m, k = m + 2 := ⟨k - 2, by omega⟩
   simp [truantref01_Text.l0, truantref01_Text.j1, hs]; omega
theorem text_step (k : Nat) (n : Int) (s : ByteArray) (b : Bool) (hn : R64 n) (h : s.toList = [] ∨ n ≠ 0) (hz : s.size ≤ 40) :
  ∃ s' : ByteArray, s'.toList = UInt8.ofNat (48 + n.natAbs % 10) :: s.toList ∧ ∀ k, truantref01_Text.l0 (k + 2) n s b = truantref01_Text.l0 k (Int.tdiv n 10) s' b := by
 have hq : wrap64 (Int.tdiv n 10) = Int.tdiv n 10 := by
  have : Int.tdiv n 10 = if n < 0 then -((-n) / 10) else n / 10 := by
   split
   ·have := Int.neg_tdiv (-n) 10
    rw [Int.neg_neg] at this
    rw [this, Int.tdiv_eq_ediv_of_nonneg (by omega)]
   ·rw [Int.tdiv_eq_ediv_of_nonneg (by omega)]
  unfold R64 at hn
  rw [this]; unfold wrap64; split <;> omega
 have hj : ∀ k, truantref01_Text.l0 (k + 2) n s b = truantref01_Text.j1 (k + 1) n s b true := by
  intro k
  simp only [truantref01_Text.l0]
  by_cases hs : s.toList = []
  ·rw [if_pos hs]
  ·rw [if_neg hs]
   have : (n != 0) = true := by rcases h with h | h; exact absurd h hs; simpa using h
   rw [this]
 have hsz : ∀ x : Int, 0 ≤ x → (strOfNums [x]).size = 1 := fun x hx => by rw [← tl_len, one_tl hx]; rfl
 by_cases hneg : Int.tmod n 10 < 0
 ·have e : (wrap64 (48 + wrap64 (-Int.tmod n 10))) % 256 = 48 + ((n.natAbs % 10 : Nat) : Int) := by
   have hlt : n < 0 := by
    rcases (show n < 0 ∨ 0 ≤ n by omega) with h | h
    ·exact h
    ·have := Int.tmod_nonneg 10 h; omega
   have e1 : Int.tmod n 10 = -((-n) % 10) := by
    have := Int.neg_tmod (-n) 10
    rw [Int.neg_neg] at this
    rw [this, Int.tmod_eq_emod_of_nonneg (by omega)]
   rw [e1]; unfold wrap64; omega
  refine ⟨strOfNums [48 + ((n.natAbs % 10 : Nat) : Int)] ++ s, ?_, fun k => ?_⟩
  ·rw [app_tl, one_tl (by omega)]
   rw [show (48 + ((n.natAbs % 10 : Nat) : Int)).toNat = 48 + n.natAbs % 10 by omega]; rfl
  ·rw [hj, truantref01_Text.j1, if_pos rfl, if_pos hneg, e, hq]
   simp only [Option.bind_some]
   rw [if_pos (by rw [hsz _ (by omega)]; omega)]
 ·have e : (wrap64 (48 + Int.tmod n 10)) % 256 = 48 + ((n.natAbs % 10 : Nat) : Int) := by
   rcases (show n < 0 ∨ 0 ≤ n by omega) with hlt | hge
   ·have e1 : Int.tmod n 10 = -((-n) % 10) := by
     have := Int.neg_tmod (-n) 10
     rw [Int.neg_neg] at this
     rw [this, Int.tmod_eq_emod_of_nonneg (by omega)]
    rw [e1] at hneg ⊢
    unfold wrap64; omega
   ·rw [Int.tmod_eq_emod_of_nonneg hge]; unfold wrap64; omega
  refine ⟨strOfNums [48 + ((n.natAbs % 10 : Nat) : Int)] ++ s, ?_, fun k => ?_⟩
  ·rw [app_tl, one_tl (by omega)]
   rw [show (48 + ((n.natAbs % 10 : Nat) : Int)).toNat = 48 + n.natAbs % 10 by omega]; rfl
  ·rw [hj, truantref01_Text.j1, if_pos rfl, if_neg hneg, e, hq]
   simp only [Option.bind_some]
   rw [if_pos (by rw [hsz _ (by omega)]; omega)]
theorem tdiv_abs (n : Int) : (Int.tdiv n 10).natAbs = n.natAbs / 10 := by
 rcases (show n < 0 ∨ 0 ≤ n by omega) with h | h
 ·have := Int.neg_tdiv (-n) 10
  rw [Int.neg_neg] at this
  rw [this, Int.tdiv_eq_ediv_of_nonneg (by omega)]; omega
 ·rw [Int.tdiv_eq_ediv_of_nonneg h]; omega
theorem text_all : ∀ (u : Nat) (n : Int) (s : ByteArray) (b : Bool), n.natAbs = u → R64 n → (s.toList = [] ∨ n ≠ 0) → s.size + Lib.nDigits u ≤ 40 → ∃ t : ByteArray, t.toList = signed b (Lib.decDigits u ++ s.toList) ∧ Ev (fun k => truantref01_Text.l0 k n s b) t := by
 intro u
 induction u using Nat.strongRecOn with
 | _ u ih =>
  intro n s b hu hn h hz
  obtain ⟨s', e1, e2⟩ := text_step 0 n s b hn h (by omega)
  have hs' : s'.size = s.size + 1 := by rw [← tl_len, e1, List.length_cons, tl_len]
  have hne : s'.toList ≠ [] := by rw [e1]; simp
  rw [hu] at e1
  by_cases h10 : u < 10
  ·have h0 : Int.tdiv n 10 = 0 := by have := tdiv_abs n; omega
   rw [Lib.nDigits_small h10] at hz
   obtain ⟨t, t1, K, t2⟩ := text_end s' b hne (by omega)
   refine ⟨t, ?_, K + 2, fun k hk => ?_⟩
   ·rw [t1, e1, Lib.decDigits, dif_pos h10, Nat.mod_eq_of_lt h10]; rfl
   ·obtain ⟨k, rfl⟩ : ∃ m, k = m + 2 := ⟨k - 2, by omega⟩
    show truantref01_Text.l0 (k + 2) n s b = some t
    rw [e2, h0]; exact t2 k (by omega)
  ·rw [Lib.nDigits_big h10] at hz
   have hq := tdiv_abs n
   have hn' : R64 (Int.tdiv n 10) := by unfold R64 at hn ⊢; omega
   obtain ⟨t, t1, K, t2⟩ := ih (u / 10) (by omega) (Int.tdiv n 10) s' b (by rw [hq, hu]) hn' (.inr (by omega)) (by omega)
   refine ⟨t, ?_, K + 2, fun k hk => ?_⟩
   ·rw [t1, e1, Lib.decDigits.eq_def u, dif_neg h10]; simp
   ·obtain ⟨k, rfl⟩ : ∃ m, k = m + 2 := ⟨k - 2, by omega⟩
    show truantref01_Text.l0 (k + 2) n s b = some t
    rw [e2]; exact t2 k (by omega)
theorem text_same {n : Int} (hn : R64 n) : ∃ t : ByteArray, t.toList = Lib.itoa n ∧ Ev (fun k => truantref01_Text.f k n) t := by
 have h0 : (⟨#[]⟩ : ByteArray).toList = [] := by rw [Lib.toList_data]
 have hd := nd_le (u := n.natAbs) (by unfold R64 at hn; omega)
 obtain ⟨t, t1, t2⟩ := text_all n.natAbs n ⟨#[]⟩ (decide (n < 0)) rfl hn (.inl h0) (by rw [show (⟨#[]⟩ : ByteArray).size = 0 from rfl]; omega)
 refine ⟨t, ?_, t2⟩
 rw [t1, h0, List.append_nil]
 unfold Lib.itoa signed
 by_cases h : n < 0
 ·simp [h]
 ·simp [h, show n.natAbs = n.toNat by omega]
theorem tl_mk (l : List UInt8) : (⟨l.toArray⟩ : ByteArray).toList = l := by rw [Lib.toList_data]
theorem tl_data (a : ByteArray) : a.data.toList = a.toList := by rw [Lib.toList_data]
def vt (n : Int) : List UInt8 := 118 :: Lib.itoa n
theorem itoa_le {n : Int} (h : R64 n) : (Lib.itoa n).length ≤ 21 := Lib.itoa_length_le n h.1 h.2
theorem itoa_some {n : Int} (h : R64 n) : strconv_Itoa_42.f n = some ⟨(Lib.itoa n).toArray⟩ := by unfold strconv_Itoa_42.f; rw [if_pos ⟨h.1, h.2⟩]
theorem value_is {n : Int} (h : R64 n) : ∃ t, ir_value.f n = some t ∧ t.toList = vt n := by
 refine ⟨⟨#[118]⟩ ++ ⟨(Lib.itoa n).toArray⟩, ?_, ?_⟩
 ·unfold ir_value.f
  rw [itoa_some h, Option.bind_some, if_pos]
  have := itoa_le h
  have e : (⟨(Lib.itoa n).toArray⟩ : ByteArray).size = (Lib.itoa n).length := by rw [← tl_len, tl_mk]
  rw [e]; omega
 ·rw [app_tl, tl_mk, tl_mk]; rfl
def opt (s : ByteArray) : List ByteArray := if s.toList = [] then [] else [s]
def optL (s : ByteArray) : List (List UInt8) := if s.toList = [] then [] else [s.toList]
theorem opt_map (s : ByteArray) : (opt s).map (·.toList) = optL s := by unfold opt optL; split <;> rfl
theorem opt_len (s : ByteArray) : (opt s).length ≤ 1 := by unfold opt; split <;> simp
theorem line_two (k : Nat) (w : List ByteArray) (f0 : Int) (f1 : ByteArray) (f2 : List Int) (f3 : Int) (f4 : ByteArray) (hw : w.length ≤ 10) :
  ir_Line.l0 (k + 3) w [f1, f4] 2 0 f0 f1 f2 f3 f4 = (strconv_Itoa_42.f f3).bind fun t => ir_Line.l1 k (w ++ opt f1 ++ opt f4 ++ [t]) f2 (f2.length : Int) 0 := by
 have w1 : wrap64 (0 + 1) = 1 := by unfold wrap64; omega
 have w2 : wrap64 (1 + 1) = 2 := by unfold wrap64; omega
 have e0 : rdOf ByteArray.empty [f1, f4] 0 = f1 := rfl
 have e1 : rdOf ByteArray.empty [f1, f4] 1 = f4 := rfl
 have hl : (([f1, f4] : List ByteArray).length : Int) = 2 := rfl
 by_cases h1 : f1.toList = []
 ·by_cases h2 : f4.toList = []
  ·have o1 : opt f1 = [] := if_pos h1
   have o2 : opt f4 = [] := if_pos h2
   simp only [ir_Line.l0, w1, w2, e0, e1, hl, if_pos h1, if_pos h2, o1, o2, List.append_nil]
   simp only [show ((0 : Int) < 2) = True by simp, show ((1 : Int) < 2) = True by simp, show ((2 : Int) < 2) = False by simp, show ((0 : Int) ≤ 0) = True by simp, show ((0 : Int) ≤ 1) = True by simp, if_true, if_false, if_pos (show w.length < 8796093022208 by omega)]
  ·have o1 : opt f1 = [] := if_pos h1
   have o2 : opt f4 = [f4] := if_neg h2
   simp only [ir_Line.l0, w1, w2, e0, e1, hl, if_pos h1, if_neg h2, o1, o2, List.append_nil]
   simp only [show ((0 : Int) < 2) = True by simp, show ((1 : Int) < 2) = True by simp, show ((2 : Int) < 2) = False by simp, show ((0 : Int) ≤ 0) = True by simp, show ((0 : Int) ≤ 1) = True by simp, if_true, if_false, if_pos (show w.length < 8796093022208 by omega), List.length_append, List.length_singleton, if_pos (show w.length + 1 < 8796093022208 by omega)]
 ·by_cases h2 : f4.toList = []
  ·have o1 : opt f1 = [f1] := if_neg h1
   have o2 : opt f4 = [] := if_pos h2
   simp only [ir_Line.l0, w1, w2, e0, e1, hl, if_neg h1, if_pos h2, o1, o2, List.append_nil]
   simp only [show ((0 : Int) < 2) = True by simp, show ((1 : Int) < 2) = True by simp, show ((2 : Int) < 2) = False by simp, show ((0 : Int) ≤ 0) = True by simp, show ((0 : Int) ≤ 1) = True by simp, if_true, if_false, if_pos (show w.length < 8796093022208 by omega), List.length_append, List.length_singleton, if_pos (show w.length + 1 < 8796093022208 by omega)]
  ·have o1 : opt f1 = [f1] := if_neg h1
   have o2 : opt f4 = [f4] := if_neg h2
   simp only [ir_Line.l0, w1, w2, e0, e1, hl, if_neg h1, if_neg h2, o1, o2]
   simp only [show ((0 : Int) < 2) = True by simp, show ((1 : Int) < 2) = True by simp, show ((2 : Int) < 2) = False by simp, show ((0 : Int) ≤ 0) = True by simp, show ((0 : Int) ≤ 1) = True by simp, if_true, if_false, if_pos (show w.length < 8796093022208 by omega), List.length_append, List.length_singleton, if_pos (show w.length + 1 < 8796093022208 by omega), if_pos (show w.length + 1 + 1 < 8796093022208 by omega)]
theorem drop_vt (l : List Int) {i : Nat} (hi : i < l.length) : (l.drop i).map vt = vt (rd l (i : Int)) :: (l.drop (i + 1)).map vt := by
 rw [List.drop_eq_getElem_cons hi, List.map_cons]
 congr 2
 unfold rd
 rw [Int.toNat_natCast, getD_at _ _ hi]
theorem line_args (l : List Int) (hl : l.length ≤ 1048576) (hr : ∀ x ∈ l, R64 x) (d : Nat) : ∀ (i : Nat) (w : List ByteArray), i ≤ l.length → l.length - i = d → w.length + d ≤ 2000000 →
  (Lib.join (w.map (·.toList) ++ (l.drop i).map vt) [32]).length ≤ 140737488355328 → ∃ t : ByteArray, t.toList = Lib.join (w.map (·.toList) ++ (l.drop i).map vt) [32] ∧ Ev (fun k => ir_Line.l1 k w l (l.length : Int) (i : Int)) t := by
 induction d with
 | zero =>
  intro i w hi hd hw hj
  have e : l.drop i = [] := List.drop_eq_nil_of_le (by omega)
  rw [e, List.map_nil, List.append_nil] at hj ⊢
  have e2 : w.map (·.data.toList) = w.map (·.toList) := List.map_congr_left fun a _ => tl_data a
  have e3 : (⟨#[32]⟩ : ByteArray).data.toList = [32] := rfl
  refine ⟨⟨(Lib.join (w.map (·.toList)) [32]).toArray⟩, tl_mk _, Ev.step (fun k => rfl) (Ev.neg (by omega) (Ev.one ?_ (Ev.now _)))⟩
  unfold strings_Join.f
  rw [e2, e3, if_pos ⟨by omega, hj⟩]
 | succ d ih =>
  intro i w hi hd hw hj
  have hx : R64 (rd l (i : Int)) := by
   unfold rd
   rw [Int.toNat_natCast, getD_at _ _ (by omega)]
   exact hr _ (List.getElem_mem _)
  obtain ⟨v, hv, hvt⟩ := value_is hx
  have e : w.map (·.toList) ++ (l.drop i).map vt = (w ++ [v]).map (·.toList) ++ (l.drop (i + 1)).map vt := by
   rw [drop_vt l (by omega), List.map_append, List.map_singleton, hvt, List.append_assoc]; rfl
  rw [e] at hj ⊢
  obtain ⟨t, h1, h2⟩ := ih (i + 1) (w ++ [v]) (by omega) (by omega) (by rw [List.length_append, List.length_singleton]; omega) hj
  refine ⟨t, h1, Ev.step (fun k => rfl) (Ev.pos (by omega) (Ev.pos (by omega) (Ev.pos (by omega) (Ev.one hv (Ev.pos (by omega) ?_)))))⟩
  rw [wrap_succ (by omega) (by omega)]
  exact h2
/-- What stands behind the word. -/
def tailOf (x : S47) : List (List UInt8) := optL x.f1 ++ (optL x.f4 ++ (Lib.itoa x.f3 :: x.f2.map vt))
def lineOf (p : Int) (x : S47) : List UInt8 := vt p ++ (32 :: 61 :: 32 :: ((wordOf x.f0).toList ++ ((tailOf x).map (32 :: ·)).flatten))
def Short (x : S47) : Prop := x.f1.size ≤ 1048576 ∧ x.f4.size ≤ 1048576 ∧ x.f2.length ≤ 1048576 ∧ (∀ a ∈ x.f2, R64 a) ∧ R64 x.f3
theorem flat_vt (l : List Int) (hr : ∀ x ∈ l, R64 x) : ((l.map vt).map (32 :: ·)).flatten.length ≤ 23 * l.length := by
 induction l with
 | nil => simp
 | cons a l ih =>
  have h1 := itoa_le (hr a (by simp))
  have h2 := ih (fun x hx => hr x (by simp [hx]))
  simp only [List.map_cons, List.flatten_cons, List.length_append, List.length_cons, vt] at h2 ⊢
  omega
theorem flat_opt (s : ByteArray) : ((optL s).map (32 :: ·)).flatten.length ≤ 1 + s.size := by
 unfold optL
 split
 ·simp
 ·simp only [List.map_cons, List.map_nil, List.flatten_cons, List.flatten_nil, List.append_nil, List.length_cons, tl_len]; omega
theorem flat_tail {x : S47} (h : Short x) : ((tailOf x).map (32 :: ·)).flatten.length ≤ 40000000 := by
 obtain ⟨h1, h2, h3, h4, h5⟩ := h
 have q1 := flat_opt x.f1
 have q2 := flat_opt x.f4
 have q3 := flat_vt x.f2 h4
 have q4 := itoa_le h5
 unfold tailOf
 rw [List.map_append, List.flatten_append, List.map_append, List.flatten_append, List.map_cons, List.flatten_cons]
 simp only [List.length_append, List.length_cons]
 omega
theorem word_len (a : Int) : (wordOf a).toList.length ≤ 10 := by
 by_cases h : 0 ≤ a ∧ a ≤ 34
 ·obtain ⟨n, hn, rfl⟩ : ∃ n : Nat, n < 35 ∧ a = n := ⟨a.toNat, by omega, by omega⟩
  have := List.all_eq_true.mp (show ((List.range 35).all fun n => decide ((wordOf (n : Int)).toList.length ≤ 10)) = true by kernel_rfl) n (List.mem_range.mpr hn)
  exact of_decide_eq_true this
 ·have e : wordOf a = ⟨#[]⟩ := if_neg h
  rw [e]
  have : (⟨#[]⟩ : ByteArray).toList = [] := by kernel_rfl
  rw [this]; exact Nat.zero_le _
theorem word_some (a : Int) : decide (1 ≤ a ∧ a ≤ 34 ∧ a ≠ 19) = !((wordOf a).toList == ([] : List UInt8)) := by
 by_cases h : 0 ≤ a ∧ a ≤ 34
 ·obtain ⟨n, hn, rfl⟩ : ∃ n : Nat, n < 35 ∧ a = n := ⟨a.toNat, by omega, by omega⟩
  have := List.all_eq_true.mp (show ((List.range 35).all fun n => decide (1 ≤ (n : Int) ∧ (n : Int) ≤ 34 ∧ (n : Int) ≠ 19) == !((wordOf (n : Int)).toList == ([] : List UInt8))) = true by kernel_rfl) n (List.mem_range.mpr hn)
  exact beq_iff_eq.mp this
 ·have e : wordOf a = ⟨#[]⟩ := if_neg h
  rw [e]
  have : (⟨#[]⟩ : ByteArray).toList = [] := by kernel_rfl
  rw [this, decide_eq_false (by omega)]; rfl
def isLine (ins : List S47) (p : Int) : Bool := decide (0 ≤ p) && (decide (p < (ins.length : Int)) && !((wordOf (rd_T47 ins p).f0).toList == ([] : List UInt8)))
def lineAt (ins : List S47) (p : Int) : List UInt8 := if isLine ins p = true then lineOf p (rd_T47 ins p) else []
theorem nil_tl : (⟨#[]⟩ : ByteArray).toList = [] := by kernel_rfl
theorem line_ir (a0 : ByteArray) (l1 : List ByteArray) (a2 : ByteArray) (l3 : List ByteArray) (ins : List S47) (bs : List S53) (p : Int) (hp : R64 p) (hs : ∀ x ∈ ins, Short x) : ∃ t : ByteArray, t.toList = lineAt ins p ∧ Ev (fun k => ir_Line.f k a0 l1 a2 l3 ins bs p) t := by
 unfold ir_Line.f lineAt isLine
 by_cases h1 : p < 0
 ·rw [decide_eq_false (show ¬ 0 ≤ p by omega)]
  exact ⟨⟨#[]⟩, nil_tl, Ev.pos h1 (Ev.step (fun k => rfl) (Ev.now _))⟩
 ·rw [decide_eq_true (show 0 ≤ p by omega), Bool.true_and]
  by_cases h2 : p < (ins.length : Int)
  ·rw [decide_eq_true h2, Bool.true_and]
   obtain ⟨x, hx⟩ : ∃ x, x = rd_T47 ins p := ⟨_, rfl⟩
   have hm : x ∈ ins := by
    rw [hx]
    unfold rd_T47
    rw [getD_at _ _ (by omega)]
    exact List.getElem_mem _
   have hsx := hs x hm
   rw [← hx]
   cases hw : ((wordOf x.f0).toList == ([] : List UInt8)) with
   | true =>
    refine ⟨⟨#[]⟩, nil_tl, Ev.neg h1 (Ev.neg (by omega) (Ev.pos (by omega) (Ev.pos h2 (Ev.one (isOp_is x.f0) ?_))))⟩
    rw [word_some, hw]
    exact Ev.step (fun k => rfl) (Ev.now _)
   | false =>
    obtain ⟨v, hv, hvt⟩ := value_is hp
    obtain ⟨g1, g2, g3, g4, g5⟩ := hsx
    have ht := flat_tail ⟨g1, g2, g3, g4, g5⟩
    have hwl := word_len x.f0
    obtain ⟨N, hN⟩ : ∃ N : ByteArray, N = ⟨(Lib.itoa x.f3).toArray⟩ := ⟨_, rfl⟩
    obtain ⟨W, hW⟩ : ∃ W : List ByteArray, W = [v, ⟨#[61]⟩, wordOf x.f0] ++ opt x.f1 ++ opt x.f4 ++ [N] := ⟨_, rfl⟩
    have hWl : W.length ≤ 6 := by
     rw [hW]
     have := opt_len x.f1
     have := opt_len x.f4
     simp only [List.length_append, List.length_cons, List.length_nil]
     omega
    have h61 : (⟨#[61]⟩ : ByteArray).toList = [61] := by kernel_rfl
    have ej : Lib.join (W.map (·.toList) ++ (x.f2.drop 0).map vt) [32] = lineOf p x := by
     rw [hW, List.drop_zero, List.map_append, List.map_append, List.map_append, opt_map, opt_map, hN]
     simp only [List.map_cons, List.map_nil, List.cons_append, List.nil_append, List.append_assoc, hvt, h61, tl_mk]
     rw [Lib.join_cons]
     unfold lineOf tailOf Lib.joinTail
     simp
    have hlen : (Lib.join (W.map (·.toList) ++ (x.f2.drop 0).map vt) [32]).length ≤ 140737488355328 := by
     rw [ej]
     unfold lineOf
     have h20 := itoa_le hp
     simp only [List.length_append, List.length_cons, vt]
     omega
    obtain ⟨t, t1, t2⟩ := line_args x.f2 g3 g4 x.f2.length 0 W (by omega) (by omega) (by omega) hlen
    rw [ej] at t1
    refine ⟨t, t1, Ev.neg h1 (Ev.neg (by omega) (Ev.pos (by omega) (Ev.pos h2 (Ev.one (isOp_is x.f0) ?_))))⟩
    rw [word_some, hw]
    refine Ev.step (fun k => by simp only [ir_Line.j0]; rfl) (Ev.neg (by decide) (Ev.pos (by omega) (Ev.pos h2 ?_)))
    rw [← hx]
    refine Ev.one hv (Ev.one (rfl : ir_Word.f x.f0 = some (wordOf x.f0)) ?_)
    obtain ⟨K, hK⟩ := t2
    refine ⟨K + 3, fun k hk => ?_⟩
    obtain ⟨k, rfl⟩ : ∃ m, k = m + 3 := ⟨k - 3, by omega⟩
    show ir_Line.l0 (k + 3) [v, ⟨#[61]⟩, wordOf x.f0] [x.f1, x.f4] 2 0 x.f0 x.f1 x.f2 x.f3 x.f4 = some t
    rw [line_two k _ _ _ _ _ _ (by simp), itoa_some g5, Option.bind_some, ← hN, ← hW]
    exact hK k (by omega)
  ·rw [decide_eq_false h2, Bool.false_and]
   exact ⟨⟨#[]⟩, nil_tl, Ev.neg h1 (Ev.pos (by omega) (Ev.step (fun k => rfl) (Ev.now _)))⟩
theorem rline_args (f0 : Int) (f1 : ByteArray) (l : List Int) (f3 : Int) (f4 : ByteArray) (hl : l.length ≤ 1048576) (hr : ∀ x ∈ l, R64 x) (d : Nat) : ∀ (i : Nat) (s : ByteArray), i ≤ l.length → l.length - i = d → s.size + 23 * d ≤ 1000000000 →
  ∃ t : ByteArray, t.toList = s.toList ++ (((l.drop i).map vt).map (32 :: ·)).flatten ∧ Ev (fun k => truantref08_Line.l0 k s (i : Int) f0 f1 l f3 f4) t := by
 induction d with
 | zero =>
  intro i s hi hd hw
  have e : l.drop i = [] := List.drop_eq_nil_of_le (by omega)
  rw [e]
  exact ⟨s, by simp, Ev.step (fun k => rfl) (Ev.neg (by omega) (Ev.now _))⟩
 | succ d ih =>
  intro i s hi hd hw
  have hx : R64 (rd l (i : Int)) := by
   unfold rd
   rw [Int.toNat_natCast, getD_at _ _ (by omega)]
   exact hr _ (List.getElem_mem _)
  obtain ⟨v, hvt, hv⟩ := text_same hx
  have h32 : (⟨#[32, 118]⟩ : ByteArray).toList = [32, 118] := by kernel_rfl
  have hvl : v.size ≤ 21 := by rw [← tl_len, hvt]; exact itoa_le hx
  have hz1 : (s ++ (⟨#[32, 118]⟩ : ByteArray)).size = s.size + 2 := by rw [← tl_len, app_tl, List.length_append, h32, tl_len]; rfl
  have hz2 : ((s ++ (⟨#[32, 118]⟩ : ByteArray)) ++ v).size = s.size + 2 + v.size := by rw [← tl_len, app_tl, List.length_append, tl_len, tl_len, hz1]
  obtain ⟨t, h1, h2⟩ := ih (i + 1) ((s ++ (⟨#[32, 118]⟩ : ByteArray)) ++ v) (by omega) (by omega) (by omega)
  refine ⟨t, ?_, Ev.step (fun k => rfl) (Ev.pos (by omega) (Ev.pos (by omega) (Ev.pos (by omega) (Ev.bind hv (Ev.pos (by rw [hz1]; omega) ?_)))))⟩
  ·rw [h1, drop_vt l (i := i) (by omega), app_tl, app_tl, h32, hvt]
   simp [vt]
  ·rw [wrap_succ (by omega) (by omega)]
   exact h2
theorem rline_j2 (x : S47) (hs : Short x) (s : ByteArray) (hz : s.size ≤ 100000000) : ∃ t : ByteArray, t.toList = s.toList ++ ((Lib.itoa x.f3 :: x.f2.map vt).map (32 :: ·)).flatten ∧ Ev (fun k => truantref08_Line.j2 k s x.f0 x.f1 x.f2 x.f3 x.f4) t := by
 obtain ⟨g1, g2, g3, g4, g5⟩ := hs
 obtain ⟨v, hvt, hv⟩ := text_same g5
 have h32 : (⟨#[32]⟩ : ByteArray).toList = [32] := by kernel_rfl
 have hvl : v.size ≤ 21 := by rw [← tl_len, hvt]; exact itoa_le g5
 have hz1 : (s ++ (⟨#[32]⟩ : ByteArray)).size = s.size + 1 := by rw [← tl_len, app_tl, List.length_append, h32, tl_len]; rfl
 have hz2 : ((s ++ (⟨#[32]⟩ : ByteArray)) ++ v).size = s.size + 1 + v.size := by rw [← tl_len, app_tl, List.length_append, tl_len, tl_len, hz1]
 obtain ⟨t, h1, h2⟩ := rline_args x.f0 x.f1 x.f2 x.f3 x.f4 g3 g4 x.f2.length 0 ((s ++ (⟨#[32]⟩ : ByteArray)) ++ v) (by omega) (by omega) (by omega)
 refine ⟨t, ?_, Ev.step (fun k => rfl) (Ev.pos (by omega) (Ev.bind hv (Ev.pos (by rw [hz1]; omega) h2)))⟩
 rw [h1, app_tl, app_tl, h32, hvt]
 simp
theorem rline_j1 (x : S47) (hs : Short x) (s : ByteArray) (hz : s.size ≤ 50000000) : ∃ t : ByteArray, t.toList = s.toList ++ ((optL x.f4 ++ (Lib.itoa x.f3 :: x.f2.map vt)).map (32 :: ·)).flatten ∧ Ev (fun k => truantref08_Line.j1 k s x.f0 x.f1 x.f2 x.f3 x.f4) t := by
 have h32 : (⟨#[32]⟩ : ByteArray).toList = [32] := by kernel_rfl
 have g2 := hs.2.1
 by_cases h : x.f4.toList = []
 ·obtain ⟨t, h1, h2⟩ := rline_j2 x hs s (by omega)
  refine ⟨t, ?_, Ev.step (fun k => rfl) (Ev.pos h h2)⟩
  rw [h1, show optL x.f4 = [] from if_pos h]; rfl
 ·have hz1 : (s ++ (⟨#[32]⟩ : ByteArray)).size = s.size + 1 := by rw [← tl_len, app_tl, List.length_append, h32, tl_len]; rfl
  have hz2 : ((s ++ (⟨#[32]⟩ : ByteArray)) ++ x.f4).size = s.size + 1 + x.f4.size := by rw [← tl_len, app_tl, List.length_append, tl_len, tl_len, hz1]
  obtain ⟨t, h1, h2⟩ := rline_j2 x hs ((s ++ (⟨#[32]⟩ : ByteArray)) ++ x.f4) (by omega)
  refine ⟨t, ?_, Ev.step (fun k => rfl) (Ev.neg h (Ev.pos (by omega) (Ev.pos (by rw [hz1]; omega) h2)))⟩
  rw [h1, show optL x.f4 = [x.f4.toList] from if_neg h, app_tl, app_tl, h32]
  simp
theorem line_ref (a0 : ByteArray) (l1 : List ByteArray) (a2 : ByteArray) (l3 : List ByteArray) (ins : List S47) (bs : List S53) (p : Int) (hp : R64 p) (hs : ∀ x ∈ ins, Short x) : ∃ t : ByteArray, t.toList = lineAt ins p ∧ Ev (fun k => truantref08_Line.f k a0 l1 a2 l3 ins bs p) t := by
 unfold truantref08_Line.f lineAt isLine
 by_cases h1 : p < 0
 ·rw [decide_eq_false (show ¬ 0 ≤ p by omega)]
  exact ⟨⟨#[]⟩, nil_tl, Ev.pos h1 (Ev.step (fun k => rfl) (Ev.now _))⟩
 ·rw [decide_eq_true (show 0 ≤ p by omega), Bool.true_and]
  by_cases h2 : p < (ins.length : Int)
  ·rw [decide_eq_true h2, Bool.true_and]
   obtain ⟨x, hx⟩ : ∃ x, x = rd_T47 ins p := ⟨_, rfl⟩
   have hm : x ∈ ins := by
    rw [hx]
    unfold rd_T47
    rw [getD_at _ _ (by omega)]
    exact List.getElem_mem _
   have hsx := hs x hm
   rw [← hx]
   cases hw : ((wordOf x.f0).toList == ([] : List UInt8)) with
   | true =>
    refine ⟨⟨#[]⟩, nil_tl, Ev.neg h1 (Ev.neg (by omega) (Ev.pos (by omega) (Ev.pos h2 (Ev.one (rfl : truantref08_Word.f x.f0 = some (wordOf x.f0)) ?_))))⟩
    rw [hw]
    exact Ev.step (fun k => rfl) (Ev.now _)
   | false =>
    obtain ⟨v, hvt, hv⟩ := text_same hp
    have hvl : v.size ≤ 21 := by rw [← tl_len, hvt]; exact itoa_le hp
    have hwl : (wordOf x.f0).size ≤ 10 := by rw [← tl_len]; exact word_len x.f0
    have h118 : (⟨#[118]⟩ : ByteArray).toList = [118] := by kernel_rfl
    have h361 : (⟨#[32, 61, 32]⟩ : ByteArray).toList = [32, 61, 32] := by kernel_rfl
    have h32 : (⟨#[32]⟩ : ByteArray).toList = [32] := by kernel_rfl
    have z1 : ((⟨#[118]⟩ : ByteArray) ++ v).size = 1 + v.size := by rw [← tl_len, app_tl, List.length_append, h118, tl_len]; rfl
    have z2 : (((⟨#[118]⟩ : ByteArray) ++ v) ++ (⟨#[32, 61, 32]⟩ : ByteArray)).size = 4 + v.size := by rw [← tl_len, app_tl, List.length_append, h361, tl_len, z1]; simp; omega
    have z3 : ((((⟨#[118]⟩ : ByteArray) ++ v) ++ (⟨#[32, 61, 32]⟩ : ByteArray)) ++ wordOf x.f0).size = 4 + v.size + (wordOf x.f0).size := by rw [← tl_len, app_tl, List.length_append, tl_len, tl_len, z2]
    have e3 : ((((⟨#[118]⟩ : ByteArray) ++ v) ++ (⟨#[32, 61, 32]⟩ : ByteArray)) ++ wordOf x.f0).toList = vt p ++ (32 :: 61 :: 32 :: (wordOf x.f0).toList) := by rw [app_tl, app_tl, app_tl, h118, h361, hvt]; simp [vt]
    have g1 := hsx.1
    suffices hh : ∃ t : ByteArray, t.toList = lineOf p x ∧ Ev (fun k => if x.f1.toList = ([] : List UInt8) then (truantref08_Line.j1 k ((((⟨#[118]⟩ : ByteArray) ++ v) ++ (⟨#[32, 61, 32]⟩ : ByteArray)) ++ wordOf x.f0) x.f0 x.f1 x.f2 x.f3 x.f4) else (if ((((⟨#[118]⟩ : ByteArray) ++ v) ++ (⟨#[32, 61, 32]⟩ : ByteArray)) ++ wordOf x.f0).size + 1 ≤ 9223372036854775807 then (if (((((⟨#[118]⟩ : ByteArray) ++ v) ++ (⟨#[32, 61, 32]⟩ : ByteArray)) ++ wordOf x.f0) ++ (⟨#[32]⟩ : ByteArray)).size + x.f1.size ≤ 9223372036854775807 then (truantref08_Line.j1 k ((((((⟨#[118]⟩ : ByteArray) ++ v) ++ (⟨#[32, 61, 32]⟩ : ByteArray)) ++ wordOf x.f0) ++ (⟨#[32]⟩ : ByteArray)) ++ x.f1) x.f0 x.f1 x.f2 x.f3 x.f4) else none) else none)) t by
     obtain ⟨t, t1, t2⟩ := hh
     refine ⟨t, t1, Ev.neg h1 (Ev.neg (by omega) (Ev.pos (by omega) (Ev.pos h2 (Ev.one (rfl : truantref08_Word.f x.f0 = some (wordOf x.f0)) ?_))))⟩
     refine Ev.step (fun k => rfl) (Ev.neg (by rw [hw]; decide) (Ev.pos (by omega) (Ev.pos h2 (Ev.bind hv ?_))))
     refine Ev.pos (by omega) (Ev.pos (by rw [z1]; omega) ?_)
     rw [← hx]
     refine Ev.one (rfl : truantref08_Word.f x.f0 = some (wordOf x.f0)) ?_
     exact Ev.pos (by rw [z2]; omega) t2
    by_cases h : x.f1.toList = []
    ·obtain ⟨t, t1, t2⟩ := rline_j1 x hsx _ (show ((((⟨#[118]⟩ : ByteArray) ++ v) ++ (⟨#[32, 61, 32]⟩ : ByteArray)) ++ wordOf x.f0).size ≤ 50000000 by rw [z3]; omega)
     refine ⟨t, ?_, Ev.pos h t2⟩
     rw [t1, e3]
     unfold lineOf tailOf
     rw [show optL x.f1 = [] from if_pos h]
     simp
    ·have z4 : (((((⟨#[118]⟩ : ByteArray) ++ v) ++ (⟨#[32, 61, 32]⟩ : ByteArray)) ++ wordOf x.f0) ++ (⟨#[32]⟩ : ByteArray)).size = 5 + v.size + (wordOf x.f0).size := by rw [← tl_len, app_tl, List.length_append, tl_len, z3, h32]; simp; omega
     have z5 : ((((((⟨#[118]⟩ : ByteArray) ++ v) ++ (⟨#[32, 61, 32]⟩ : ByteArray)) ++ wordOf x.f0) ++ (⟨#[32]⟩ : ByteArray)) ++ x.f1).size = 5 + v.size + (wordOf x.f0).size + x.f1.size := by rw [← tl_len, app_tl, List.length_append, tl_len, tl_len, z4]
     obtain ⟨t, t1, t2⟩ := rline_j1 x hsx _ (show ((((((⟨#[118]⟩ : ByteArray) ++ v) ++ (⟨#[32, 61, 32]⟩ : ByteArray)) ++ wordOf x.f0) ++ (⟨#[32]⟩ : ByteArray)) ++ x.f1).size ≤ 50000000 by rw [z5]; omega)
     refine ⟨t, ?_, Ev.neg h (Ev.pos (by rw [z3]; omega) (Ev.pos (by rw [z4]; omega) t2))⟩
     rw [t1, app_tl, app_tl, e3, h32]
     unfold lineOf tailOf
     rw [show optL x.f1 = [x.f1.toList] from if_neg h]
     simp
  ·rw [decide_eq_false h2, Bool.false_and]
   exact ⟨⟨#[]⟩, nil_tl, Ev.neg h1 (Ev.pos (by omega) (Ev.step (fun k => rfl) (Ev.now _)))⟩
theorem has_l (l : List Int) (x : Int) (hm : l.length ≤ 1048576) (d : Nat) : ∀ (k i : Nat), i ≤ l.length → l.length - i = d → d < k → (∀ j : Nat, j < i → l.getD j 0 ≠ x) → truantref08_Has.l0 k l x (i : Int) = some (l.contains x) := by
 induction d with
 | zero =>
  intro k i h0 hd hk h
  obtain ⟨k, rfl⟩ : ∃ m, k = m + 1 := ⟨k - 1, by omega⟩
  simp only [truantref08_Has.l0]
  rw [if_neg (by omega)]
  congr 1; symm
  rw [← Bool.not_eq_true, List.contains_iff_mem]
  intro hx
  obtain ⟨j, hj, e⟩ := List.mem_iff_getElem.mp hx
  exact h j (by omega) (by rw [getD_at _ _ hj]; exact e)
 | succ d ih =>
  intro k i h0 hd hk h
  obtain ⟨k, rfl⟩ : ∃ m, k = m + 1 := ⟨k - 1, by omega⟩
  simp only [truantref08_Has.l0]
  rw [if_pos (by omega), if_pos (by omega)]
  by_cases e : rd l (i : Int) = x
  ·rw [if_pos e]
   congr 1; symm
   rw [List.contains_iff_mem, ← e]
   unfold rd
   rw [Int.toNat_natCast, getD_at _ _ (by omega)]
   exact List.getElem_mem _
  ·rw [if_neg e, wrap_succ (by omega) (by omega)]
   exact ih k (i + 1) (by omega) (by omega) (by omega) (all_succ h (by unfold rd at e; rw [Int.toNat_natCast] at e; exact e))
theorem has_is (l : List Int) (x : Int) (hm : l.length ≤ 1048576) : Ev (fun k => truantref08_Has.f k l x) (l.contains x) :=
 ⟨l.length + 1, fun k hk => has_l l x hm l.length k 0 (by omega) (by omega) (by omega) (fun j hj => by omega)⟩
def lstd (bs : List S53) (x : Int) : Bool := bs.any fun b => b.f0.contains x
section
variable (a0 : ByteArray) (l1 : List ByteArray) (a2 : ByteArray) (l3 : List ByteArray) (ins : List S47) (bs : List S53)
def okB (bs : List S53) : Prop := bs.length ≤ 1048576 ∧ ∀ b ∈ bs, b.f0.length ≤ 1048576
theorem rd_block {bs : List S53} {i : Nat} (hi : i < bs.length) : rd_T53 bs (i : Int) = bs[i] := by
 unfold rd_T53
 rw [Int.toNat_natCast, getD_at _ _ hi]
theorem listed_in (x : Int) (h : okB bs) {i : Nat} (hi : i < bs.length) (d : Nat) : ∀ j : Nat, j ≤ (bs[i]).f0.length → (bs[i]).f0.length - j = d → (∀ m : Nat, m < j → (bs[i]).f0.getD m 0 ≠ x) →
  ∀ r, ((bs[i]).f0.contains x = true → r = true) → ((bs[i]).f0.contains x = false → Ev (fun k => truantref08_Listed.l0 k x ((i : Int) + 1) a0 l1 a2 l3 ins bs) r) → Ev (fun k => truantref08_Listed.l1 k x (i : Int) (j : Int) a0 l1 a2 l3 ins bs) r := by
 have hb := h.2 _ (List.getElem_mem hi)
 have hn := h.1
 induction d with
 | zero =>
  intro j hj hd hne r h1 h2
  have hc : (bs[i]).f0.contains x = false := by
   rw [← Bool.not_eq_true, List.contains_iff_mem]
   intro hx
   obtain ⟨m, hm, e⟩ := List.mem_iff_getElem.mp hx
   exact hne m (by omega) (by rw [getD_at _ _ hm]; exact e)
  refine Ev.step (fun k => rfl) (Ev.pos (by omega) (Ev.pos (by omega) ?_))
  rw [rd_block hi]
  refine Ev.neg (by omega) ?_
  rw [wrap_succ (by omega) (by omega)]
  exact h2 hc
 | succ d ih =>
  intro j hj hd hne r h1 h2
  refine Ev.step (fun k => rfl) (Ev.pos (by omega) (Ev.pos (by omega) ?_))
  rw [rd_block hi]
  refine Ev.pos (by omega) (Ev.pos (by omega) ?_)
  by_cases e : rd (bs[i]).f0 (j : Int) = x
  ·have hc : (bs[i]).f0.contains x = true := by
    rw [List.contains_iff_mem, ← e]
    unfold rd
    rw [Int.toNat_natCast, getD_at _ _ (by omega)]
    exact List.getElem_mem _
   refine Ev.pos e ?_
   rw [h1 hc]; exact Ev.now _
  ·refine Ev.neg e ?_
   rw [wrap_succ (by omega) (by omega)]
   exact ih (j + 1) (by omega) (by omega) (all_succ hne (by unfold rd at e; rw [Int.toNat_natCast] at e; exact e)) r h1 h2
theorem listed_out (x : Int) (h : okB bs) (d : Nat) : ∀ i : Nat, i ≤ bs.length → bs.length - i = d → Ev (fun k => truantref08_Listed.l0 k x (i : Int) a0 l1 a2 l3 ins bs) (lstd (bs.drop i) x) := by
 induction d with
 | zero =>
  intro i hi hd
  rw [List.drop_eq_nil_of_le (by omega)]
  exact Ev.step (fun k => rfl) (Ev.neg (by omega) (Ev.now _))
 | succ d ih =>
  intro i hi hd
  have hi' : i < bs.length := by omega
  have e : lstd (bs.drop i) x = ((bs[i]).f0.contains x || lstd (bs.drop (i + 1)) x) := by
   unfold lstd
   rw [List.drop_eq_getElem_cons hi', List.any_cons]
  refine Ev.step (fun k => rfl) (Ev.pos (by omega) (listed_in a0 l1 a2 l3 ins bs x h hi' _ 0 (by omega) rfl (fun m hm => by omega) _ (fun hc => by rw [e, hc, Bool.true_or]) (fun hc => ?_)))
  rw [e, hc, Bool.false_or]
  exact ih (i + 1) (by omega) (by omega)
theorem listed_is (x : Int) (h : okB bs) : Ev (fun k => truantref08_Listed.f k a0 l1 a2 l3 ins bs x) (lstd bs x) := listed_out a0 l1 a2 l3 ins bs x h bs.length 0 (by omega) (by omega)
theorem rd_ins {ins : List S47} {i : Nat} (hi : i < ins.length) : rd_T47 ins (i : Int) = ins[i] := by
 unfold rd_T47
 rw [Int.toNat_natCast, getD_at _ _ hi]
theorem wide_args (hn : ins.length ≤ 300) (hl : ∀ x ∈ ins, x.f2.length ≤ 1048576) (d : Nat) : ∀ (i : Nat) (c : Nat), i ≤ ins.length → ins.length - i = d → c + 1048576 * d ≤ 1000000000 →
  ∃ b, Ev (fun k => truantlaw08_wide.l1 k (c : Int) (i : Int) a0 l1 a2 l3 ins bs) b ∧ (b = false → c ≤ 1500) := by
 induction d with
 | zero =>
  intro i c hi hd hc
  exact ⟨_, Ev.step (fun k => rfl) (Ev.neg (by omega) (Ev.now _)), fun h => by have := of_decide_eq_false h; omega⟩
 | succ d ih =>
  intro i c hi hd hc
  have hi' : i < ins.length := by omega
  have h1 := hl _ (List.getElem_mem hi')
  obtain ⟨b, hb, hb2⟩ := ih (i + 1) (c + (ins[i]).f2.length) (by omega) (by omega) (by omega)
  refine ⟨b, Ev.step (fun k => rfl) (Ev.pos (by omega) (Ev.pos (by omega) ?_)), fun h => by have := hb2 h; omega⟩
  rw [rd_ins hi', wrap_succ (by omega) (by omega), show wrap64 ((c : Int) + ((ins[i]).f2.length : Int)) = ((c + (ins[i]).f2.length : Nat) : Int) by unfold wrap64; omega]
  exact hb
theorem listed_cons (b : S53) (bs : List S53) : listed (b :: bs) = b.f0.length + listed bs := by simp [listed]
theorem wide_blocks (hn : ins.length ≤ 300) (hl : ∀ x ∈ ins, x.f2.length ≤ 1048576) (hn2 : bs.length ≤ 60) (hl2 : ∀ b ∈ bs, b.f0.length ≤ 1048576) (d : Nat) : ∀ (i : Nat) (c : Nat), i ≤ bs.length → bs.length - i = d → c + 1048576 * d ≤ 200000000 →
  ∃ b, Ev (fun k => truantlaw08_wide.l0 k (c : Int) (i : Int) a0 l1 a2 l3 ins bs) b ∧ (b = false → c + listed (bs.drop i) ≤ 1500) := by
 induction d with
 | zero =>
  intro i c hi hd hc
  obtain ⟨b, hb, hb2⟩ := wide_args a0 l1 a2 l3 ins bs hn hl ins.length 0 c (by omega) (by omega) (by omega)
  refine ⟨b, Ev.step (fun k => rfl) (Ev.neg (by omega) hb), fun h => ?_⟩
  rw [List.drop_eq_nil_of_le (by omega)]
  exact hb2 h
 | succ d ih =>
  intro i c hi hd hc
  have hi' : i < bs.length := by omega
  have h1 := hl2 _ (List.getElem_mem hi')
  obtain ⟨b, hb, hb2⟩ := ih (i + 1) (c + (bs[i]).f0.length) (by omega) (by omega) (by omega)
  refine ⟨b, Ev.step (fun k => rfl) (Ev.pos (by omega) (Ev.pos (by omega) ?_)), fun h => ?_⟩
  ·rw [rd_block hi', wrap_succ (by omega) (by omega), show wrap64 ((c : Int) + ((bs[i]).f0.length : Int)) = ((c + (bs[i]).f0.length : Nat) : Int) by unfold wrap64; omega]
   exact hb
  ·have := hb2 h
   rw [List.drop_eq_getElem_cons hi', listed_cons]
   omega
theorem wide_is (hl : ∀ x ∈ ins, x.f2.length ≤ 1048576) (hl2 : ∀ b ∈ bs, b.f0.length ≤ 1048576) : ∃ b, Ev (fun k => truantlaw08_wide.f k a0 l1 a2 l3 ins bs) b ∧ (b = false → listed bs ≤ 1500) := by
 unfold truantlaw08_wide.f
 by_cases h1 : (l1.length : Int) > 10
 ·exact ⟨true, Ev.pos h1 (Ev.step (fun k => rfl) (Ev.now _)), fun h => by cases h⟩
 ·by_cases h2 : (l3.length : Int) > 100
  ·exact ⟨true, Ev.neg h1 (Ev.pos h2 (Ev.step (fun k => rfl) (Ev.now _))), fun h => by cases h⟩
  ·by_cases h3 : (ins.length : Int) > 300
   ·exact ⟨true, Ev.neg h1 (Ev.neg h2 (Ev.pos h3 (Ev.step (fun k => rfl) (Ev.now _)))), fun h => by cases h⟩
   ·by_cases h4 : (bs.length : Int) > 60
    ·refine ⟨true, Ev.neg h1 (Ev.neg h2 (Ev.neg h3 ?_)), fun h => by cases h⟩
     rw [decide_eq_true h4]
     exact Ev.step (fun k => rfl) (Ev.now _)
    ·obtain ⟨b, hb, hb2⟩ := wide_blocks a0 l1 a2 l3 ins bs (by omega) hl (by omega) hl2 bs.length 0 0 (by omega) (by omega) (by omega)
     refine ⟨b, Ev.neg h1 (Ev.neg h2 (Ev.neg h3 ?_)), fun h => by have := hb2 h; rw [List.drop_zero] at this; omega⟩
     rw [decide_eq_false h4]
     exact Ev.step (fun k => by simp only [truantlaw08_wide.j0]; rfl) (Ev.neg (by decide) hb)
def usedBy (ins : List S47) (bs : List S53) (p : Int) (i : Nat) : Bool := lstd bs (i : Int) && (rd_T47 ins (i : Int)).f2.contains p
theorem uses_asc (p : Int) : sortC (usesTo ins p bs) = ascTo (usedBy ins bs p) ins.length := by
 refine sortC_asc _ _ _ (fun x => ?_)
 unfold usesTo
 rw [List.mem_flatten]
 constructor
 ·rintro ⟨l, hl, hx⟩
  obtain ⟨b, hb, rfl⟩ := List.mem_map.mp hl
  obtain ⟨h1, h2⟩ := List.mem_filter.mp hx
  unfold hasArg at h2
  simp only [Bool.and_eq_true, decide_eq_true_eq] at h2
  obtain ⟨h3, h4, h5⟩ := h2
  refine ⟨h3, h4, ?_⟩
  unfold usedBy lstd
  rw [Int.toNat_of_nonneg h3, h5, Bool.and_true, List.any_eq_true]
  exact ⟨b, hb, List.contains_iff_mem.mpr h1⟩
 ·rintro ⟨h3, h4, h⟩
  unfold usedBy lstd at h
  rw [Int.toNat_of_nonneg h3, Bool.and_eq_true, List.any_eq_true] at h
  obtain ⟨⟨b, hb, h1⟩, h5⟩ := h
  refine ⟨_, List.mem_map.mpr ⟨b, hb, rfl⟩, List.mem_filter.mpr ⟨List.contains_iff_mem.mp h1, ?_⟩⟩
  unfold hasArg
  rw [decide_eq_true h3, decide_eq_true h4, h5]; rfl
theorem law_uses (p : Int) (hn : ins.length ≤ 1048576) (hs : ∀ x ∈ ins, Short x) (hp : R64 p) (hb : okB bs) (d : Nat) : ∀ i : Nat, i ≤ ins.length → ins.length - i = d →
  Ev (fun k => truantlaw08_IrUses.l0 k p (ascTo (usedBy ins bs p) ins.length) ((ascTo (usedBy ins bs p) i).length : Int) (i : Int) a0 l1 a2 l3 ins bs) true := by
 induction d with
 | zero =>
  intro i hi hd
  obtain rfl : i = ins.length := by omega
  obtain ⟨t, t1, t2⟩ := line_ir a0 l1 a2 l3 ins bs p hp hs
  obtain ⟨u, u1, u2⟩ := line_ref a0 l1 a2 l3 ins bs p hp hs
  refine Ev.step (fun k => rfl) (Ev.neg (by omega) (Ev.pos rfl (Ev.bind t2 (Ev.bind u2 ?_))))
  rw [t1, u1, beq_self_eq_true]
  exact Ev.now _
 | succ d ih =>
  intro i hi hd
  have hi' : i < ins.length := by omega
  have hx := hs _ (List.getElem_mem hi')
  refine Ev.step (fun k => rfl) (Ev.pos (by omega) (Ev.bind (listed_is a0 l1 a2 l3 ins bs (i : Int) hb) ?_))
  have hal := asc_len (usedBy ins bs p) i
  cases h1 : lstd bs (i : Int) with
  | false =>
   have hu : usedBy ins bs p i = false := by unfold usedBy; rw [h1, Bool.false_and]
   refine Ev.neg (by decide) ?_
   rw [wrap_succ (by omega) (by omega)]
   have e : ascTo (usedBy ins bs p) (i + 1) = ascTo (usedBy ins bs p) i := if_neg (by rw [hu]; decide)
   have := ih (i + 1) (by omega) (by omega)
   rw [e] at this
   exact this
  | true =>
   refine Ev.pos rfl (Ev.pos (by omega) ?_)
   rw [rd_ins hi']
   refine Ev.bind (has_is _ p hx.2.2.1) ?_
   cases h2 : (ins[i]).f2.contains p with
   | false =>
    have hu : usedBy ins bs p i = false := by unfold usedBy; rw [h1, rd_ins hi', h2]; rfl
    refine Ev.neg (by decide) ?_
    rw [wrap_succ (by omega) (by omega)]
    have e : ascTo (usedBy ins bs p) (i + 1) = ascTo (usedBy ins bs p) i := if_neg (by rw [hu]; decide)
    have := ih (i + 1) (by omega) (by omega)
    rw [e] at this
    exact this
   | true =>
    have hu : usedBy ins bs p i = true := by unfold usedBy; rw [h1, rd_ins hi', h2]; rfl
    obtain ⟨q1, q2⟩ := asc_at (usedBy ins bs p) hu ins.length hi'
    refine Ev.pos rfl (Ev.neg (by omega) (Ev.pos (by omega) (Ev.pos (by omega) (Ev.pos q2 ?_))))
    rw [wrap_succ (by omega) (by omega), wrap_succ (by omega) (by omega)]
    have e : ascTo (usedBy ins bs p) (i + 1) = ascTo (usedBy ins bs p) i ++ [(i : Int)] := if_pos hu
    have := ih (i + 1) (by omega) (by omega)
    rw [e, List.length_append, List.length_singleton] at this
    exact this
end
theorem IrUses_pureU : IrUses.PureU := by
 intro a0 l1 a2 l3 ins bs p hW hp
 obtain ⟨_, _, _, _, ⟨hn, hi⟩, ⟨hn2, hb⟩⟩ := hW
 have hs : ∀ x ∈ ins, Short x := fun x hx => by
  obtain ⟨_, h1, ⟨h2, h3⟩, h4, h5⟩ := hi x hx
  exact ⟨h1, h5, h2, fun a ha => R64.of (h3 a ha), R64.of h4⟩
 have hb2 : ∀ b ∈ bs, b.f0.length ≤ 1048576 := fun b h => (hb b h).1.1
 obtain ⟨w, w1, w2⟩ := wide_is a0 l1 a2 l3 ins bs (fun x h => (hs x h).2.2.1) hb2
 have h : Ev (fun k => truantlaw08_IrUses.f k a0 l1 a2 l3 ins bs p) true := by
  unfold truantlaw08_IrUses.f
  refine Ev.one (rfl : truantlaw08_awake.f = some true) (Ev.pos rfl (Ev.bind w1 ?_))
  cases w with
  | true => exact Ev.pos rfl (Ev.now _)
  | false =>
   have hl := w2 rfl
   refine Ev.neg (by decide) (Ev.one (b := sortC (usesTo ins p bs)) (if_pos (by omega)) ?_)
   rw [uses_asc]
   exact law_uses a0 l1 a2 l3 ins bs p hn hs (R64.of hp) ⟨hn2, hb2⟩ ins.length 0 (by omega) (by omega)
 exact h.rounds
theorem gPow : Tryd.prog.globalNamed "internal/strconv.uint64pow10" = some 1 := by kernel_rfl
theorem gPowType : (Tryd.prog.globals[1]?).map (·.type) = some 125 := by kernel_rfl
theorem cellsU64 : Tryd.prog.cellsOf 106 = 1 := by kernel_rfl
theorem cellsPow : Tryd.prog.cellsOf 125 = 20 := by kernel_rfl
theorem powData : (Rows.laid_internal_strconv_uint64pow10 : DataW Unit) = Lib.tabData .u64 Lib.pow10Tab := by kernel_rfl
def listedG : List (String × DataW Unit) := [("math/bits.deBruijn32tab", Rows.laid_math_bits_deBruijn32tab), ("math/bits.deBruijn64tab", Rows.laid_math_bits_deBruijn64tab), ("internal/strconv.uint64pow10", Rows.laid_internal_strconv_uint64pow10)]
theorem glob_of_laid {W : World} (h : laidMetH Tryd.prog listedG W) : Glob W := by
 rw [MakeChecks.laidMetH_plain _ _ _ (by kernel_rfl)] at h
 have h2 := h.tail.tail
 rw [powData] at h2
 exact Lib.tabIs_of_head gPow gPowType Tryd.underlying125 Tryd.underlying106 cellsU64 cellsPow h2
end Go.Proofs.YtkiiojgaaoaipaaDoor.Q
