/- What the row of NodeSets rests on, part 2: contracts of the functions that it reaches, and the plain law. -/
import Derived.Test.YtgidnkmlnccaiaaDoorJNodeSets1
/- The anchor of chapter 18: by hand; its last region is written by wip/tool/genN.py. -/
namespace Go.Proofs.YtgidnkmlnccaiaaDoor.Q
open Go.RowKit Go.Proofs.YtgidnkmlnccaiaaDoorW.PrintWords Go.Proofs.YtgidnkmlnccaiaaDoorW.PrintLast Go.Proofs.YtgidnkmlnccaiaaDoorW.PrintMore
set_option linter.unusedVariables false
set_option linter.unusedSimpArgs false
def nA : Nd := ⟨1, 3, ⟨#[84]⟩⟩
def nB : Nd := ⟨2, 0, ⟨#[84]⟩⟩
def rT : S28 := ⟨⟨#[84]⟩, [⟨⟨#[110]⟩, ⟨#[105, 110, 116]⟩⟩, ⟨⟨#[117]⟩, ⟨#[42, 85]⟩⟩]⟩
def rU : S28 := ⟨⟨#[85]⟩, []⟩
def eB : S40 := ⟨nB, 1, ⟨2, 0, ⟨#[85]⟩⟩⟩
theorem nA_wf : ndW nA := ⟨by decide, by decide, by decide⟩
theorem nB_wf : ndW nB := ⟨by decide, by decide, by decide⟩
theorem ofL_BAB : ofL [nB, nA, nB] = [nA, nB] := by kernel_rfl
theorem first_B : node_First.f 60 [rT, rU] 2 0 ⟨#[84]⟩ = some [eB] := by kernel_rfl
theorem first_A : node_First.f 60 [] 1 3 ⟨#[84]⟩ = some [] := by kernel_rfl
theorem text_A : node_Text.f 60 1 3 ⟨#[84]⟩ = some ⟨#[115, 105, 116, 101, 32, 51, 32, 84]⟩ := by kernel_rfl
theorem text_B : node_Text.f 60 2 0 ⟨#[84]⟩ = some ⟨#[111, 117, 116, 101, 114, 32, 84]⟩ := by kernel_rfl
theorem cmp_AB : node_Compare.f 60 1 3 ⟨#[84]⟩ 2 0 ⟨#[84]⟩ = some (-1) := by kernel_rfl
theorem nd_row (W : World) (l : List Nd) (hl : l.length ≤ 9223372036854775807) : Kd.C k24 (W.alloc (.cells (ndCs l).toArray 24)) (some ⟨W.heap.size, 0, none⟩) l.length l :=
 (Kd.R_reads' (lit_R k24 (W := W) W.heap.size 24 (xs := l) (inner := ndCs l) (ok := fun _ => True) (okp := fun _ => True) (reps_nd _ _ _ l) (fun _ h => h) trivial (Nat.le_refl _) hl)).2.2
theorem rTU_row (w : World) : Kd.C k28 ((w.alloc (.cells #[.string ⟨#[110]⟩, .string ⟨#[105, 110, 116]⟩, .string ⟨#[117]⟩, .string ⟨#[42, 85]⟩] 64)).alloc (.cells #[.string ⟨#[84]⟩, .slice (some ⟨w.heap.size, 0, none⟩) 2 2, .string ⟨#[85]⟩, .slice none 0 0] 28)) (some ⟨w.heap.size + 1, 0, none⟩) 2 [rT, rU] := by
 have hf := lit_R k64 (W := w) w.heap.size 64 (xs := rT.f1) (inner := [.string ⟨#[110]⟩, .string ⟨#[105, 110, 116]⟩, .string ⟨#[117]⟩, .string ⟨#[42, 85]⟩]) (ok := fun _ => True) (okp := fun _ => True) (Reps.c2 ⟨[.string ⟨#[110]⟩], [.string ⟨#[105, 110, 116]⟩], rfl, rfl, rfl⟩ (Reps.c2 ⟨[.string ⟨#[117]⟩], [.string ⟨#[42, 85]⟩], rfl, rfl, rfl⟩ (Reps.none _ _))) (fun _ h => h) trivial (Nat.le_refl _) (by decide)
 have e1 : (w.alloc (.cells #[.string ⟨#[110]⟩, .string ⟨#[105, 110, 116]⟩, .string ⟨#[117]⟩, .string ⟨#[42, 85]⟩] 64)).heap.size = w.heap.size + 1 := World.size_alloc _ _
 have hs := lit_R k28 (W := w.alloc (.cells #[.string ⟨#[110]⟩, .string ⟨#[105, 110, 116]⟩, .string ⟨#[117]⟩, .string ⟨#[42, 85]⟩] 64)) w.heap.size 28 (xs := [rT, rU]) (inner := [.string ⟨#[84]⟩, .slice (some ⟨w.heap.size, 0, none⟩) 2 2, .string ⟨#[85]⟩, .slice none 0 0]) (ok := fun _ => True) (okp := fun _ => True) (Reps.c2 (k28_mkM _ _ _ rT hf) (Reps.c2 (k28_mkM _ _ _ rU (Kd.R_nil _ _ _ _ _)) (Reps.none _ _))) (fun _ h => h) trivial (by omega) (by decide)
 rw [e1] at hs
 exact (Kd.R_reads' hs).2.2
theorem wf_A : ∀ x ∈ [nA], ndW x := fun x hx => by rw [List.mem_singleton.mp hx]; exact nA_wf
theorem aw_len2 (m : Option Nat) (w : World) (h : SetO w m [nA, nB]) : Calls Tryd.prog 26 #[.agg #[.map m]] w fun e w' => e = .returned (.int .i64 2) ∧ Below w.heap.size w w' := set_Len m [nA, nB] w h
theorem aw_len0 (m : Option Nat) (w : World) (h : SetO w m []) : Calls Tryd.prog 26 #[.agg #[.map m]] w fun e w' => e = .returned (.int .i64 0) ∧ Below w.heap.size w w' := set_Len m [] w h
theorem aw_hasB (m : Option Nat) (w : World) (h : SetO w m [nA, nB]) : Calls Tryd.prog 25 #[.agg #[.map m], .agg #[.int .i64 2, .int .i64 0, .string ⟨#[84]⟩]] w fun e w' => e = .returned (.bool true) ∧ Below w.heap.size w w' :=
 (set_Has m [nA, nB] nB w h nB_wf).mono fun _ _ h => ⟨by rw [h.1, decB_true (by simp)], h.2⟩
theorem nA_ne : nB ≠ nA := fun h => by
 have : nB.f0 = nA.f0 := by rw [h]
 exact absurd this (by decide)
theorem aw_hasnB (m : Option Nat) (w : World) (h : SetO w m [nA]) : Calls Tryd.prog 25 #[.agg #[.map m], .agg #[.int .i64 2, .int .i64 0, .string ⟨#[84]⟩]] w fun e w' => e = .returned (.bool false) ∧ Below w.heap.size w w' :=
 (set_Has m [nA] nB w h nB_wf).mono fun _ _ h => ⟨by rw [h.1, decB_false (fun h => nA_ne (List.mem_singleton.mp h))], h.2⟩
theorem aw_in (m n : Option Nat) (w : World) (h : SetO w m [nA]) (h2 : SetO w n [nA, nB]) : Calls Tryd.prog 23 #[.agg #[.map m], .agg #[.map n]] w fun e w' => e = .returned (.bool true) ∧ Below w.heap.size w w' :=
 (set_Within m n [nA] [nA, nB] w h h2).mono fun _ _ h => ⟨by rw [h.1, decB_true (fun x hx => by rw [List.mem_singleton.mp hx]; simp)], h.2⟩
theorem aw_nin (m n : Option Nat) (w : World) (h : SetO w m [nA, nB]) (h2 : SetO w n [nA]) : Calls Tryd.prog 23 #[.agg #[.map m], .agg #[.map n]] w fun e w' => e = .returned (.bool false) ∧ Below w.heap.size w w' :=
 (set_Within m n [nA, nB] [nA] w h h2).mono fun _ _ h => ⟨by rw [h.1, decB_false (fun h => nA_ne (List.mem_singleton.mp (h nB (by simp))))], h.2⟩
theorem typed_U : typedL ⟨#[85]⟩ [nA, nB] = [] := by kernel_rfl
theorem aw_typed (m : Option Nat) (w : World) (h : SetO w m [nA, nB]) : Calls Tryd.prog 24 #[.agg #[.map m], .string ⟨#[85]⟩] w fun e w' => ∃ b, e = .returned (.agg #[.map (some b)]) ∧ SetO w' (some b) [] ∧ Below w.heap.size w w' :=
 (set_Typed m [nA, nB] ⟨#[85]⟩ w h (by decide)).mono fun _ _ ⟨b, h1, _, h3, h4⟩ => ⟨b, h1, by rw [typed_U] at h3; exact h3, h4⟩
def truantlaw18_awake.f : Option (Bool) := some true
def truantlaw18_awake.T6 : Bool × List (List Nat × List Nat) := (true, [([], []), ([], []), ([0, 1], [0, 1]), ([2], [2]), ([3, 2], [3]), ([4], [4]), ([5, 4, 4], [4, 5]), ([6, 4], [4, 6]), ([4, 7], [4, 7]), ([8, 6], [8]), ([9], [9]), ([10, 9, 9], [9, 10]), ([11, 9], [9, 11]), ([9, 12], [9, 12]), ([13, 11], [13]), ([14], [14]), ([15, 14, 14], [14, 15]), ([16, 14], [14, 16]), ([14, 17], [14, 17]), ([18, 16], [18]), ([19], [19]), ([20, 19], [19, 20]), ([21, 19], [19, 21]), ([19, 22], [19, 22]), ([23, 19], [23]), ([24], [24]), ([25, 24], [24, 25]), ([26, 24], [24, 26]), ([24], [24]), ([27, 28, 24], [24, 27, 28]), ([24, 29], [24, 29]), ([30, 24], [30]), ([31], [31]), ([31], [31]), ([32, 33, 31, 31], [31, 32, 33]), ([31, 34], [31, 34]), ([35, 34], [35]), ([36], [36]), ([37, 36], [36, 37]), ([38, 36, 36], [36, 38]), ([36], [36]), ([39, 40, 39, 36], [36, 39, 40]), ([41, 36], [36, 41]), ([36, 42], [36, 42]), ([43, 41], [43]), ([44], [44]), ([45, 44], [44, 45]), ([46, 44, 44], [44, 46]), ([44], [44]), ([47, 48, 47, 44], [44, 47, 48]), ([44, 49], [44, 49]), ([50, 49], [50]), ([51], [51]), ([51], [51]), ([53, 51], [51, 53]), ([54, 51, 51], [51, 54]), ([52, 55, 55, 51], [51, 52, 55]), ([56, 51], [51, 56]), ([51, 57], [51, 57]), ([58, 56], [58]), ([59], [59]), ([60, 59, 59], [59, 60]), ([61, 61, 59], [59, 61]), ([62, 59], [59, 62]), ([59, 63], [59, 63]), ([64, 62], [64]), ([65], [65]), ([66, 65], [65, 66]), ([67, 65], [65, 67]), ([65, 68], [65, 68]), ([69, 65], [69]), ([70], [70]), ([71, 70], [70, 71]), ([72, 70], [70, 72]), ([70], [70]), ([70], [70]), ([74, 75, 70], [70, 74, 75]), ([73, 76, 70], [70, 73, 76]), ([70, 77], [70, 77]), ([78, 70], [78]), ([79], [79]), ([80, 79, 79], [79, 80]), ([81, 79], [79, 81]), ([82, 79], [79, 82]), ([79, 83], [79, 83]), ([84, 81, 0, 1, 2, 3, 4, 5, 6, 7, 8, 9, 10, 11, 12, 13, 14, 15, 16, 17, 18, 19, 20, 21, 22, 23, 24, 25, 26, 27, 28, 29, 30, 31, 32, 33, 34, 35, 36, 37, 38, 39, 40, 41, 42, 43, 44, 45, 46, 47, 48, 49, 50, 51, 52, 53, 54, 55, 56, 57, 58, 59, 60, 61, 62, 63, 64, 65, 66, 67, 68, 69, 70, 71, 72, 73, 74, 75, 76, 77, 78, 79, 80, 81, 82, 83, 84], [84])])
def truantlaw18_awake.B6 : List Nat := [0, 0, 3, 7, 15, 31, 63, 127, 255, 511, 1023, 2047, 4095, 8191, 16383, 32767, 65535, 131071, 262143, 524287, 1048575, 2097151, 4194303, 8388607, 16777215, 33554431, 67108863, 134217727, 33554431, 536870911, 1073741823, 2147483647, 4294967295, 4294967295, 17179869183, 34359738367, 68719476735, 137438953471, 274877906943, 549755813887, 137438953471, 2199023255551, 4398046511103, 8796093022207, 17592186044415, 35184372088831, 70368744177663, 140737488355327, 35184372088831, 562949953421311, 1125899906842623, 2251799813685247, 4503599627370495, 4503599627370495, 13510798882111487, 31525197391593471, 72057594037927935, 144115188075855871, 288230376151711743, 576460752303423487, 1152921504606846975, 2305843009213693951, 4611686018427387903, 9223372036854775807, 18446744073709551615, 36893488147419103231, 73786976294838206463, 147573952589676412927, 295147905179352825855, 590295810358705651711, 1180591620717411303423, 2361183241434822606847, 4722366482869645213695, 9444732965739290427391, 2361183241434822606847, 2361183241434822606847, 59029581035870565171199, 151115727451828646838271, 302231454903657293676543, 604462909807314587353087, 1208925819614629174706175, 2417851639229258349412351, 4835703278458516698824703, 9671406556917033397649407, 19342813113834066795298815, 38685626227668133590597631]
theorem truantlaw18_awake.tab6 : rtab .any (opsOf Tryd.f7 6) = truantlaw18_awake.T6 := by kernel_rfl
theorem truantlaw18_awake.bits6 : waitsOk truantlaw18_awake.T6.2 truantlaw18_awake.B6 = true := by kernel_rfl
set_option maxRecDepth 100000 in
set_option maxHeartbeats 8000000 in
theorem truantlaw18_awake.calls (r : Bool) (w : World) (h : truantlaw18_awake.f = some r) (hG : Glob w := by first | assumption | (refine Glob.below (by assumption) ?_; repeat (first | with_reducible exact (Aside0.out (by assumption)) | (refine below_set ?_ (Aside0.out (by assumption))) | (with_reducible first | apply below_alloc | apply pw_below_drewN | apply below_drew1) | exact (Aside0.out (by assumption))))) :
  Calls Tryd.prog 7 #[] w fun e w' => e = .returned (.bool r) ∧ Below w.heap.size w w' := by
 obtain rfl := Option.some.inj h
 clear h
 have HG := Aside0.mk hG; clear hG
 go_enter Tryd.func7, Tryd.ntmps7
 go_upto_region 3 with (fail)
 have H1 : Aside0 (((w.alloc (.cells #[.int .i64 1, .int .i64 3, .string ⟨#[84]⟩] 24)).alloc (.cells #[.int .i64 2, .int .i64 0, .string ⟨#[84]⟩] 24)).heap[w.heap.size]? = some (.cells #[.int .i64 1, .int .i64 3, .string ⟨#[84]⟩] 24 (0, 0))) := ⟨blk_alloc (blk_new _ _) _⟩
 have H2 : Aside0 (((w.alloc (.cells #[.int .i64 1, .int .i64 3, .string ⟨#[84]⟩] 24)).alloc (.cells #[.int .i64 2, .int .i64 0, .string ⟨#[84]⟩] 24)).heap[w.heap.size + 1]? = some (.cells #[.int .i64 2, .int .i64 0, .string ⟨#[84]⟩] 24 (0, 0))) := ⟨by
  have := blk_new (w.alloc (.cells #[.int .i64 1, .int .i64 3, .string ⟨#[84]⟩] 24)) (.cells #[.int .i64 2, .int .i64 0, .string ⟨#[84]⟩] 24)
  rw [World.size_alloc] at this
  exact this⟩
 have HB : Aside0 (Below w.heap.size w ((w.alloc (.cells #[.int .i64 1, .int .i64 3, .string ⟨#[84]⟩] 24)).alloc (.cells #[.int .i64 2, .int .i64 0, .string ⟨#[84]⟩] 24))) := ⟨below_alloc (below_alloc (Below.refl _ _) _) _⟩
 generalize (w.alloc (.cells #[.int .i64 1, .int .i64 3, .string ⟨#[84]⟩] 24)).alloc (.cells #[.int .i64 2, .int .i64 0, .string ⟨#[84]⟩] 24) = w1 at H1 H2 HB ⊢
 generalize w.heap.size + 1 = g2 at H2 ⊢
 obtain ⟨g1, hg1⟩ : ∃ g, g = w.heap.size := ⟨_, rfl⟩
 rw [← hg1] at H1 ⊢
 clear hg1
 have h1 := bk3 H1.out; have h2 := bk3 H2.out
 go_wp2_with fail
 clear h1 h2
 refine (node_Of (some ⟨w1.heap.size, 0, none⟩) 3 [nB, nA, nB] _ (nd_row w1 [nB, nA, nB] (by decide)) (Nat.le_refl _) (fun x hx => by
  have h : x = nB ∨ x = nA ∨ x = nB := by simpa using hx
  rcases h with rfl | rfl | rfl
  ·exact nB_wf
  ·exact nA_wf
  ·exact nB_wf) (by decide)).mono ?_
 rintro e w2 ⟨b, rfl, hb1, hs, hb2⟩
 rw [ofL_BAB] at hs
 have hbl : Below w1.heap.size w1 (w2.alloc (.cells #[.map (some b)] 50)) := below_alloc (below_step (below_alloc (Below.refl _ _) _) hb2) _
 have H13 := Aside0.mk (blk_below H1.out hbl); have H23 := Aside0.mk (blk_below H2.out hbl)
 have HB3 := Aside0.mk (below_step HB.out hbl)
 have HS3 : Aside0 (SetO (w2.alloc (.cells #[.map (some b)] 50)) (some b) [nA, nB]) := ⟨hs.alloc _⟩
 have H33 : Aside0 ((w2.alloc (.cells #[.map (some b)] 50)).heap[w2.heap.size]? = some (.cells #[.map (some b)] 50 (0, 0))) := ⟨blk_new _ _⟩
 clear hb1 hs hb2 hbl H1 H2 HB
 go_upto_region 4 with (fail)
 generalize w2.alloc (.cells #[.map (some b)] 50) = w3 at H13 H23 HB3 HS3 H33 ⊢
 generalize w2.heap.size = g3 at H33 ⊢
 have h3 := bk1 H33.out
 go_wp2_with fail
 clear h3
 refine (set_List (some b) [nA, nB] w3 HS3.out (by decide)).mono ?_
 rintro e w4 ⟨v4, rfl, hr4, hb4⟩
 obtain ⟨A4, c4, e4⟩ := Kd.R_slice hr4
 subst e4
 have HL4 := Aside0.mk (Kd.R_reads' hr4).2.2
 have HLC := Aside0.mk (Kd.R_reads' hr4).2.1
 have H14 := Aside0.mk (blk_below H13.out hb4); have H24 := Aside0.mk (blk_below H23.out hb4); have H34 := Aside0.mk (blk_below H33.out hb4)
 have HB4 := Aside0.mk (below_step HB3.out hb4); have HS4 := Aside0.mk (HS3.out.below hb4)
 clear hr4 hb4 H13 H23 H33 HB3 HS3
 have e1 : (w4.alloc (.cells #[.string ⟨#[110]⟩, .string ⟨#[105, 110, 116]⟩, .string ⟨#[117]⟩, .string ⟨#[42, 85]⟩] 64)).heap.size = w4.heap.size + 1 := World.size_alloc _ _
 have h2 := bk3 (blk_alloc (blk_alloc H24.out (.cells #[.string ⟨#[110]⟩, .string ⟨#[105, 110, 116]⟩, .string ⟨#[117]⟩, .string ⟨#[42, 85]⟩] 64)) (.cells #[.string ⟨#[84]⟩, .slice (some ⟨w4.heap.size, 0, none⟩) 2 2, .string ⟨#[85]⟩, .slice none 0 0] 28))
 go_wp2_with fail
 clear h2 e1
 refine (node_First.calls 60 (some ⟨w4.heap.size + 1, 0, none⟩) 2 [rT, rU] 2 0 ⟨#[84]⟩ [eB] _ (rTU_row w4) (Nat.le_refl _) first_B).mono ?_
 rintro e w5 ⟨v5, rfl, hr5, hb5⟩
 have hbl : Below w4.heap.size w4 w5 := below_step (below_alloc (below_alloc (Below.refl _ _) _) _) hb5
 have H15 := Aside0.mk (blk_below H14.out hbl); have H25 := Aside0.mk (blk_below H24.out hbl); have H35 := Aside0.mk (blk_below H34.out hbl)
 have HB5 := Aside0.mk (below_step HB4.out hbl); have HS5 := Aside0.mk (HS4.out.below hbl); have HL5 := Aside0.mk (Kd.C_below HL4.out hbl)
 have HG5 := Aside0.mk (HG.out.below HB5.out)
 obtain ⟨A5, c5, e5⟩ := Kd.R_slice hr5
 subst e5
 have HE5 := Aside0.mk (Kd.R_reads' hr5).2.2
 clear hr5 hb5 hbl H14 H24 H34 HB4 HS4 HL4 HG
 obtain ⟨ad4, e4, _⟩ := at_T24 HL5.out 0 (by decide) (by decide)
 subst e4
 obtain ⟨ad5, e5, _⟩ := at_T40 HE5.out 0 (by decide) (by decide)
 subst e5
 have HC4 : Aside0 (∀ w', Below w5.heap.size w5 w' → w'.cell? ad4 = some (.int .i64 1) ∧ w'.cell? ⟨ad4.block, ad4.off + 1, none⟩ = some (.int .i64 3) ∧ w'.cell? ⟨ad4.block, ad4.off + 2, none⟩ = some (.string ⟨#[84]⟩)) := ⟨fun w' hb => by
  obtain ⟨ad, e, h0, h1, h2⟩ := at_T24 (Kd.C_below HL5.out hb) 0 (by decide) (by decide)
  cases e
  exact ⟨h0, h1, h2⟩⟩
 have HC5 : Aside0 (∀ w', Below w5.heap.size w5 w' → w'.cell? ad5 = some (.int .i64 2) ∧ w'.cell? ⟨ad5.block, ad5.off + 1, none⟩ = some (.int .i64 0) ∧ w'.cell? ⟨ad5.block, ad5.off + 2, none⟩ = some (.string ⟨#[84]⟩) ∧ w'.cell? ⟨ad5.block, ad5.off + 3, none⟩ = some (.int .i64 1) ∧ w'.cell? ⟨ad5.block, ad5.off + 4, none⟩ = some (.int .i64 2) ∧ w'.cell? ⟨ad5.block, ad5.off + 5, none⟩ = some (.int .i64 0) ∧ w'.cell? ⟨ad5.block, ad5.off + 6, none⟩ = some (.string ⟨#[85]⟩)) := ⟨fun w' hb => by
  obtain ⟨ad, e, h0, h1, h2, h3, h4, h5, h6⟩ := at_T40 (Kd.C_below HE5.out hb) 0 (by decide) (by decide)
  cases e
  exact ⟨h0, h1, h2, h3, h4, h5, h6⟩⟩
 go_upto_region 6 with (fail)
 refine start_ (n := 86) (S := fun w' => Below w5.heap.size w5 w') (ds := []) (tf 0 86) (by kernel_rfl) rfl rfl ((below_drew1 (Below.refl _ _))) (fun hHeld => ?_)
 refine with_tabW truantlaw18_awake.tab6 truantlaw18_awake.bits6 (fun HT_ HW_ => ?_)
 refine take_ (i := 0) (N := some 23) (v := ?_) (a' := ?_) (tf 1 85) rfl rfl (take_ofW HT_.out HW_.out (by kernel_rfl)) (fun _ _ _ h => h) (Or.inl ⟨by rfl, ?_⟩) hHeld ?_ ?_
 rotate_left
 ·intro w' s0
  obtain ⟨x0, x1, x2, _, _, _⟩ := bk3 (blk_below H15.out s0)
  go_simp
  with_reducible rfl
 rotate_left
 ·simp only [Act.put, List.setIfInBounds_toArray, List.set_cons_zero, List.set_cons_succ, i64_w, i32_w]
  rfl
 refine take_ (i := 1) (N := some 24) (v := ?_) (a' := ?_) (tf 2 84) rfl rfl (take_ofW HT_.out HW_.out (by kernel_rfl)) (fun _ _ _ h => h) (Or.inl ⟨by rfl, ?_⟩) hHeld ?_ ?_
 rotate_left
 ·intro w' s0
  obtain ⟨x0, x1, x2, _, _, _⟩ := bk3 (blk_below H25.out s0)
  go_simp
  with_reducible rfl
 rotate_left
 ·simp only [Act.put, List.setIfInBounds_toArray, List.set_cons_zero, List.set_cons_succ, i64_w, i32_w]
  rfl
 refine one_ (i := 2) (N := some 25) (tf 3 83) rfl rfl (one_of HT_.out (by kernel_rfl)) (by decide) (fun K hK => ?_)
 refine goes_ Tryd.func12 (by kernel_rfl) rfl #[.agg #[.int .i64 1, .int .i64 3, .string ⟨#[84]⟩], .agg #[.int .i64 2, .int .i64 0, .string ⟨#[84]⟩]] (by rfl) rfl rfl (by simp only [List.map_toArray, List.map_cons, List.map_nil]; rfl) ?_
 refine (node_Compare.calls 60 _ _ _ _ _ _ (-1) _ cmp_AB).mono ?_
 rintro e w902 ⟨rfl, hb⟩
 refine ⟨_, rfl, ?_⟩
 refine hK.out _ _ (below_step hHeld hb) (fun hHeld => ?_)
 clear hK K
 refine norm_ (a' := ?_) ?_ ?_
 rotate_left
 ·show Act.put _ (some 25) _ = _
  simp only [Act.put, List.setIfInBounds_toArray, List.set_cons_zero, List.set_cons_succ, i64_w, i32_w]
  rfl
 refine pure_ (i := 3) (N := some 26) (v := ?_) (a' := ?_) (tf 4 82) rfl rfl (any_of HT_.out (by kernel_rfl)) (fun _ _ _ h => h) (Or.inl ⟨by rfl, ?_⟩) ?_ ?_
 rotate_left
 ·intro w'
  go_simp
  with_reducible rfl
 rotate_left
 ·simp only [Act.put, List.setIfInBounds_toArray, List.set_cons_zero, List.set_cons_succ, i64_w, i32_w]
  rfl
 refine pure_ (i := 4) (N := some 27) (v := ?_) (a' := ?_) (tf 5 81) rfl rfl (any_of HT_.out (by kernel_rfl)) (fun _ _ _ h => h) (Or.inl ⟨by rfl, ?_⟩) ?_ ?_
 rotate_left
 ·intro w'
  go_simp
  with_reducible rfl
 rotate_left
 ·simp only [Act.put, List.setIfInBounds_toArray, List.set_cons_zero, List.set_cons_succ, i64_w, i32_w]
  rfl
 refine take_ (i := 5) (N := some 28) (v := ?_) (a' := ?_) (tf 6 80) rfl rfl (take_ofW HT_.out HW_.out (by kernel_rfl)) (fun _ _ _ h => h) (Or.inl ⟨by rfl, ?_⟩) hHeld ?_ ?_
 rotate_left
 ·intro w' s0
  obtain ⟨x0, x1, x2, _, _, _⟩ := bk3 (blk_below H15.out s0)
  go_simp
  with_reducible rfl
 rotate_left
 ·simp only [Act.put, List.setIfInBounds_toArray, List.set_cons_zero, List.set_cons_succ, i64_w, i32_w]
  rfl
 refine one_ (i := 6) (N := some 29) (tf 7 79) rfl rfl (one_of HT_.out (by kernel_rfl)) (by decide) (fun K hK => ?_)
 refine goes_ Tryd.func13 (by kernel_rfl) rfl #[.agg #[.int .i64 1, .int .i64 3, .string ⟨#[84]⟩]] (by rfl) rfl rfl (by simp only [List.map_toArray, List.map_cons, List.map_nil]; rfl) ?_
 refine (node_Text.calls 60 _ _ _ _ _ text_A (HG5.out.below hHeld)).mono ?_
 rintro e w906 ⟨rfl, hb⟩
 refine ⟨_, rfl, ?_⟩
 refine hK.out _ _ (below_step hHeld hb) (fun hHeld => ?_)
 clear hK K
 refine norm_ (a' := ?_) ?_ ?_
 rotate_left
 ·show Act.put _ (some 29) _ = _
  simp only [Act.put, List.setIfInBounds_toArray, List.set_cons_zero, List.set_cons_succ, i64_w, i32_w]
  rfl
 refine pure_ (i := 7) (N := some 30) (v := ?_) (a' := ?_) (tf 8 78) rfl rfl (any_of HT_.out (by kernel_rfl)) (fun _ _ _ h => h) (Or.inl ⟨by rfl, ?_⟩) ?_ ?_
 rotate_left
 ·intro w'
  go_simp
  with_reducible rfl
 rotate_left
 ·simp only [Act.put, List.setIfInBounds_toArray, List.set_cons_zero, List.set_cons_succ, i64_w, i32_w]
  rfl
 refine pure_ (i := 8) (N := some 31) (v := ?_) (a' := ?_) (tf 9 77) rfl rfl (any_of HT_.out (by kernel_rfl)) (fun _ _ _ h => h) (Or.inl ⟨by rfl, ?_⟩) ?_ ?_
 rotate_left
 ·intro w'
  go_simp
  with_reducible rfl
 rotate_left
 ·simp only [Act.put, List.setIfInBounds_toArray, List.set_cons_zero, List.set_cons_succ, i64_w, i32_w]
  rfl
 refine pure_ (i := 9) (N := some 32) (v := ?_) (a' := ?_) (tf 10 76) rfl rfl (any_of HT_.out (by kernel_rfl)) (fun _ _ _ h => h) (Or.inl ⟨by rfl, ?_⟩) ?_ ?_
 rotate_left
 ·intro w'
  go_simp
  with_reducible rfl
 rotate_left
 ·simp only [Act.put, List.setIfInBounds_toArray, List.set_cons_zero, List.set_cons_succ, i64_w, i32_w]
  rfl
 refine take_ (i := 10) (N := some 33) (v := ?_) (a' := ?_) (tf 11 75) rfl rfl (take_ofW HT_.out HW_.out (by kernel_rfl)) (fun _ _ _ h => h) (Or.inl ⟨by rfl, ?_⟩) hHeld ?_ ?_
 rotate_left
 ·intro w' s0
  obtain ⟨x0, x1, x2, _, _, _⟩ := bk3 (blk_below H25.out s0)
  go_simp
  with_reducible rfl
 rotate_left
 ·simp only [Act.put, List.setIfInBounds_toArray, List.set_cons_zero, List.set_cons_succ, i64_w, i32_w]
  rfl
 refine one_ (i := 11) (N := some 34) (tf 12 74) rfl rfl (one_of HT_.out (by kernel_rfl)) (by decide) (fun K hK => ?_)
 refine goes_ Tryd.func13 (by kernel_rfl) rfl #[.agg #[.int .i64 2, .int .i64 0, .string ⟨#[84]⟩]] (by rfl) rfl rfl (by simp only [List.map_toArray, List.map_cons, List.map_nil]; rfl) ?_
 refine (node_Text.calls 60 _ _ _ _ _ text_B (HG5.out.below hHeld)).mono ?_
 rintro e w911 ⟨rfl, hb⟩
 refine ⟨_, rfl, ?_⟩
 refine hK.out _ _ (below_step hHeld hb) (fun hHeld => ?_)
 clear hK K
 refine norm_ (a' := ?_) ?_ ?_
 rotate_left
 ·show Act.put _ (some 34) _ = _
  simp only [Act.put, List.setIfInBounds_toArray, List.set_cons_zero, List.set_cons_succ, i64_w, i32_w]
  rfl
 refine pure_ (i := 12) (N := some 35) (v := ?_) (a' := ?_) (tf 13 73) rfl rfl (any_of HT_.out (by kernel_rfl)) (fun _ _ _ h => h) (Or.inl ⟨by rfl, ?_⟩) ?_ ?_
 rotate_left
 ·intro w'
  go_simp
  with_reducible rfl
 rotate_left
 ·simp only [Act.put, List.setIfInBounds_toArray, List.set_cons_zero, List.set_cons_succ, i64_w, i32_w]
  rfl
 refine pure_ (i := 13) (N := some 36) (v := ?_) (a' := ?_) (tf 14 72) rfl rfl (any_of HT_.out (by kernel_rfl)) (fun _ _ _ h => h) (Or.inl ⟨by rfl, ?_⟩) ?_ ?_
 rotate_left
 ·intro w'
  go_simp
  with_reducible rfl
 rotate_left
 ·simp only [Act.put, List.setIfInBounds_toArray, List.set_cons_zero, List.set_cons_succ, i64_w, i32_w]
  rfl
 refine pure_ (i := 14) (N := some 37) (v := ?_) (a' := ?_) (tf 15 71) rfl rfl (any_of HT_.out (by kernel_rfl)) (fun _ _ _ h => h) (Or.inl ⟨by rfl, ?_⟩) ?_ ?_
 rotate_left
 ·intro w'
  go_simp
  with_reducible rfl
 rotate_left
 ·simp only [Act.put, List.setIfInBounds_toArray, List.set_cons_zero, List.set_cons_succ, i64_w, i32_w]
  rfl
 refine take_ (i := 15) (N := some 38) (v := ?_) (a' := ?_) (tf 16 70) rfl rfl (take_ofW HT_.out HW_.out (by kernel_rfl)) (fun _ _ _ h => h) (Or.inl ⟨by rfl, ?_⟩) hHeld ?_ ?_
 rotate_left
 ·intro w' s0
  obtain ⟨x0, _⟩ := bk1 (blk_below H35.out s0)
  go_simp
  with_reducible rfl
 rotate_left
 ·simp only [Act.put, List.setIfInBounds_toArray, List.set_cons_zero, List.set_cons_succ, i64_w, i32_w]
  rfl
 refine one_ (i := 16) (N := some 39) (tf 17 69) rfl rfl (one_of HT_.out (by kernel_rfl)) (by decide) (fun K hK => ?_)
 refine goes_ Tryd.func26 (by kernel_rfl) rfl #[.agg #[.map (some b)]] (by rfl) rfl rfl (by simp only [List.map_toArray, List.map_cons, List.map_nil]; rfl) ?_
 refine (aw_len2 (some b) _ (HS5.out.below hHeld)).mono ?_
 rintro e w916 ⟨rfl, hb⟩
 refine ⟨_, rfl, ?_⟩
 refine hK.out _ _ (below_step hHeld hb) (fun hHeld => ?_)
 clear hK K
 refine norm_ (a' := ?_) ?_ ?_
 rotate_left
 ·show Act.put _ (some 39) _ = _
  simp only [Act.put, List.setIfInBounds_toArray, List.set_cons_zero, List.set_cons_succ, i64_w, i32_w]
  rfl
 refine pure_ (i := 17) (N := some 40) (v := ?_) (a' := ?_) (tf 18 68) rfl rfl (any_of HT_.out (by kernel_rfl)) (fun _ _ _ h => h) (Or.inl ⟨by rfl, ?_⟩) ?_ ?_
 rotate_left
 ·intro w'
  go_simp
  with_reducible rfl
 rotate_left
 ·simp only [Act.put, List.setIfInBounds_toArray, List.set_cons_zero, List.set_cons_succ, i64_w, i32_w]
  rfl
 refine pure_ (i := 18) (N := some 41) (v := ?_) (a' := ?_) (tf 19 67) rfl rfl (any_of HT_.out (by kernel_rfl)) (fun _ _ _ h => h) (Or.inl ⟨by rfl, ?_⟩) ?_ ?_
 rotate_left
 ·intro w'
  go_simp
  with_reducible rfl
 rotate_left
 ·simp only [Act.put, List.setIfInBounds_toArray, List.set_cons_zero, List.set_cons_succ, i64_w, i32_w]
  rfl
 refine pure_ (i := 19) (N := some 42) (v := ?_) (a' := ?_) (tf 20 66) rfl rfl (any_of HT_.out (by kernel_rfl)) (fun _ _ _ h => h) (Or.inl ⟨by rfl, ?_⟩) ?_ ?_
 rotate_left
 ·intro w'
  go_simp
  with_reducible rfl
 rotate_left
 ·simp only [Act.put, List.setIfInBounds_toArray, List.set_cons_zero, List.set_cons_succ, i64_w, i32_w]
  rfl
 refine pure_ (i := 20) (N := some 43) (v := ?_) (a' := ?_) (tf 21 65) rfl rfl (any_of HT_.out (by kernel_rfl)) (fun _ _ _ h => h) (Or.inl ⟨by rfl, ?_⟩) ?_ ?_
 rotate_left
 ·intro w'
  go_simp
  with_reducible rfl
 rotate_left
 ·simp only [Act.put, List.setIfInBounds_toArray, List.set_cons_zero, List.set_cons_succ, i64_w, i32_w]
  rfl
 refine pure_ (i := 21) (N := some 44) (v := ?_) (a' := ?_) (tf 22 64) rfl rfl (any_of HT_.out (by kernel_rfl)) (fun _ _ _ h => h) (Or.inl ⟨by rfl, ?_⟩) ?_ ?_
 rotate_left
 ·intro w'
  go_simp
  with_reducible rfl
 rotate_left
 ·simp only [Act.put, List.setIfInBounds_toArray, List.set_cons_zero, List.set_cons_succ, i64_w, i32_w]
  rfl
 refine pure_ (i := 22) (N := some 45) (v := ?_) (a' := ?_) (tf 23 63) rfl rfl (any_of HT_.out (by kernel_rfl)) (fun _ _ _ h => h) (Or.inl ⟨by rfl, ?_⟩) ?_ ?_
 rotate_left
 ·intro w'
  go_simp
  with_reducible rfl
 rotate_left
 ·simp only [Act.put, List.setIfInBounds_toArray, List.set_cons_zero, List.set_cons_succ, i64_w, i32_w]
  rfl
 refine pure_ (i := 23) (N := some 46) (v := ?_) (a' := ?_) (tf 24 62) rfl rfl (any_of HT_.out (by kernel_rfl)) (fun _ _ _ h => h) (Or.inl ⟨by rfl, ?_⟩) ?_ ?_
 rotate_left
 ·intro w'
  go_simp
  with_reducible rfl
 rotate_left
 ·simp only [Act.put, List.setIfInBounds_toArray, List.set_cons_zero, List.set_cons_succ, i64_w, i32_w]
  rfl
 refine pure_ (i := 24) (N := some 47) (v := ?_) (a' := ?_) (tf 25 61) rfl rfl (any_of HT_.out (by kernel_rfl)) (fun _ _ _ h => h) (Or.inl ⟨by rfl, ?_⟩) ?_ ?_
 rotate_left
 ·intro w'
  go_simp
  with_reducible rfl
 rotate_left
 ·simp only [Act.put, List.setIfInBounds_toArray, List.set_cons_zero, List.set_cons_succ, i64_w, i32_w]
  rfl
 refine pure_ (i := 25) (N := some 48) (v := ?_) (a' := ?_) (tf 26 60) rfl rfl (any_of HT_.out (by kernel_rfl)) (fun _ _ _ h => h) (Or.inl ⟨by rfl, ?_⟩) ?_ ?_
 rotate_left
 ·intro w'
  go_simp
  with_reducible rfl
 rotate_left
 ·simp only [Act.put, List.setIfInBounds_toArray, List.set_cons_zero, List.set_cons_succ, i64_w, i32_w]
  rfl
 refine pure_ (i := 26) (N := some 49) (v := ?_) (a' := ?_) (tf 27 59) rfl rfl (any_of HT_.out (by kernel_rfl)) (fun _ _ _ h => h) (Or.inl ⟨by rfl, ?_⟩) ?_ ?_
 rotate_left
 ·intro w'
  go_simp
  with_reducible rfl
 rotate_left
 ·simp only [Act.put, List.setIfInBounds_toArray, List.set_cons_zero, List.set_cons_succ, i64_w, i32_w]
  rfl
 refine take_ (i := 27) (N := some 50) (v := ?_) (a' := ?_) (tf 28 58) rfl rfl (take_ofW HT_.out HW_.out (by kernel_rfl)) (fun _ _ _ h => h) (Or.inl ⟨by rfl, ?_⟩) hHeld ?_ ?_
 rotate_left
 ·intro w' s0
  obtain ⟨x0, x1, x2⟩ := HC4.out w' s0
  go_simp
  with_reducible rfl
 rotate_left
 ·simp only [Act.put, List.setIfInBounds_toArray, List.set_cons_zero, List.set_cons_succ, i64_w, i32_w]
  rfl
 refine take_ (i := 28) (N := some 51) (v := ?_) (a' := ?_) (tf 29 57) rfl rfl (take_ofW HT_.out HW_.out (by kernel_rfl)) (fun _ _ _ h => h) (Or.inl ⟨by rfl, ?_⟩) hHeld ?_ ?_
 rotate_left
 ·intro w' s0
  obtain ⟨x0, x1, x2, _, _, _⟩ := bk3 (blk_below H15.out s0)
  go_simp
  with_reducible rfl
 rotate_left
 ·simp only [Act.put, List.setIfInBounds_toArray, List.set_cons_zero, List.set_cons_succ, i64_w, i32_w]
  rfl
 refine pure_ (i := 29) (N := some 52) (v := ?_) (a' := ?_) (tf 30 56) rfl rfl (any_of HT_.out (by kernel_rfl)) (fun _ _ _ h => h) (Or.inl ⟨by rfl, ?_⟩) ?_ ?_
 rotate_left
 ·intro w'
  go_simp
  with_reducible rfl
 rotate_left
 ·simp only [Act.put, List.setIfInBounds_toArray, List.set_cons_zero, List.set_cons_succ, i64_w, i32_w]
  rfl
 refine pure_ (i := 30) (N := some 53) (v := ?_) (a' := ?_) (tf 31 55) rfl rfl (any_of HT_.out (by kernel_rfl)) (fun _ _ _ h => h) (Or.inl ⟨by rfl, ?_⟩) ?_ ?_
 rotate_left
 ·intro w'
  go_simp
  with_reducible rfl
 rotate_left
 ·simp only [Act.put, List.setIfInBounds_toArray, List.set_cons_zero, List.set_cons_succ, i64_w, i32_w]
  rfl
 refine pure_ (i := 31) (N := some 54) (v := ?_) (a' := ?_) (tf 32 54) rfl rfl (any_of HT_.out (by kernel_rfl)) (fun _ _ _ h => h) (Or.inl ⟨by rfl, ?_⟩) ?_ ?_
 rotate_left
 ·intro w'
  go_simp
  with_reducible rfl
 rotate_left
 ·simp only [Act.put, List.setIfInBounds_toArray, List.set_cons_zero, List.set_cons_succ, i64_w, i32_w]
  rfl
 refine take_ (i := 32) (N := some 55) (v := ?_) (a' := ?_) (tf 33 53) rfl rfl (take_ofW HT_.out HW_.out (by kernel_rfl)) (fun _ _ _ h => h) (Or.inl ⟨by rfl, ?_⟩) hHeld ?_ ?_
 rotate_left
 ·intro w' s0
  obtain ⟨x0, _⟩ := bk1 (blk_below H35.out s0)
  go_simp
  with_reducible rfl
 rotate_left
 ·simp only [Act.put, List.setIfInBounds_toArray, List.set_cons_zero, List.set_cons_succ, i64_w, i32_w]
  rfl
 refine take_ (i := 33) (N := some 56) (v := ?_) (a' := ?_) (tf 34 52) rfl rfl (take_ofW HT_.out HW_.out (by kernel_rfl)) (fun _ _ _ h => h) (Or.inl ⟨by rfl, ?_⟩) hHeld ?_ ?_
 rotate_left
 ·intro w' s0
  obtain ⟨x0, x1, x2, _, _, _⟩ := bk3 (blk_below H25.out s0)
  go_simp
  with_reducible rfl
 rotate_left
 ·simp only [Act.put, List.setIfInBounds_toArray, List.set_cons_zero, List.set_cons_succ, i64_w, i32_w]
  rfl
 refine one_ (i := 34) (N := some 57) (tf 35 51) rfl rfl (one_of HT_.out (by kernel_rfl)) (by decide) (fun K hK => ?_)
 refine goes_ Tryd.func25 (by kernel_rfl) rfl #[.agg #[.map (some b)], .agg #[.int .i64 2, .int .i64 0, .string ⟨#[84]⟩]] (by rfl) rfl rfl (by simp only [List.map_toArray, List.map_cons, List.map_nil]; rfl) ?_
 refine (aw_hasB (some b) _ (HS5.out.below hHeld)).mono ?_
 rintro e w934 ⟨rfl, hb⟩
 refine ⟨_, rfl, ?_⟩
 refine hK.out _ _ (below_step hHeld hb) (fun hHeld => ?_)
 clear hK K
 refine norm_ (a' := ?_) ?_ ?_
 rotate_left
 ·show Act.put _ (some 57) _ = _
  simp only [Act.put, List.setIfInBounds_toArray, List.set_cons_zero, List.set_cons_succ, i64_w, i32_w]
  rfl
 refine pure_ (i := 35) (N := some 58) (v := ?_) (a' := ?_) (tf 36 50) rfl rfl (any_of HT_.out (by kernel_rfl)) (fun _ _ _ h => h) (Or.inl ⟨by rfl, ?_⟩) ?_ ?_
 rotate_left
 ·intro w'
  go_simp
  with_reducible rfl
 rotate_left
 ·simp only [Act.put, List.setIfInBounds_toArray, List.set_cons_zero, List.set_cons_succ, i64_w, i32_w]
  rfl
 refine pure_ (i := 36) (N := some 59) (v := ?_) (a' := ?_) (tf 37 49) rfl rfl (any_of HT_.out (by kernel_rfl)) (fun _ _ _ h => h) (Or.inl ⟨by rfl, ?_⟩) ?_ ?_
 rotate_left
 ·intro w'
  go_simp
  with_reducible rfl
 rotate_left
 ·simp only [Act.put, List.setIfInBounds_toArray, List.set_cons_zero, List.set_cons_succ, i64_w, i32_w]
  rfl
 refine take_ (i := 37) (N := some 60) (v := ?_) (a' := ?_) (tf 38 48) rfl rfl (take_ofW HT_.out HW_.out (by kernel_rfl)) (fun _ _ _ h => h) (Or.inl ⟨by rfl, ?_⟩) hHeld ?_ ?_
 rotate_left
 ·intro w' s0
  obtain ⟨x0, x1, x2, _, _, _⟩ := bk3 (blk_below H15.out s0)
  go_simp
  with_reducible rfl
 rotate_left
 ·simp only [Act.put, List.setIfInBounds_toArray, List.set_cons_zero, List.set_cons_succ, i64_w, i32_w]
  rfl
 refine take_ (i := 40) (N := some 63) (v := ?_) (a' := ?_) #[true, true, true, true, true, true, true, true, true, true, true, true, true, true, true, true, true, true, true, true, true, true, true, true, true, true, true, true, true, true, true, true, true, true, true, true, true, true, false, false, true, false, false, false, false, false, false, false, false, false, false, false, false, false, false, false, false, false, false, false, false, false, false, false, false, false, false, false, false, false, false, false, false, false, false, false, false, false, false, false, false, false, false, false, false, false] rfl rfl (take_ofW HT_.out HW_.out (by kernel_rfl)) (fun _ _ _ h => h) (Or.inl ⟨by rfl, ?_⟩) hHeld ?_ ?_
 rotate_left
 ·intro w' s0
  obtain ⟨x0, x1, x2, _, _, _⟩ := bk3 (blk_below H25.out s0)
  go_simp
  with_reducible rfl
 rotate_left
 ·simp only [Act.put, List.setIfInBounds_toArray, List.set_cons_zero, List.set_cons_succ, i64_w, i32_w]
  rfl
 refine one_ (i := 38) (N := some 61) #[true, true, true, true, true, true, true, true, true, true, true, true, true, true, true, true, true, true, true, true, true, true, true, true, true, true, true, true, true, true, true, true, true, true, true, true, true, true, true, false, true, false, false, false, false, false, false, false, false, false, false, false, false, false, false, false, false, false, false, false, false, false, false, false, false, false, false, false, false, false, false, false, false, false, false, false, false, false, false, false, false, false, false, false, false, false] rfl rfl (one_of HT_.out (by kernel_rfl)) (by decide) (fun K hK => ?_)
 refine Kd.R_lit_step k24 _ 24 ?hg (N := 61) ?hd (xs := [nA]) (inner := [.int .i64 1, .int .i64 3, .string ⟨#[84]⟩]) (ok := fun _ => True) (okp := fun _ => True) ?hr ?hp (fun _ hk => hk) trivial (Below.refl _ _) (Nat.le_refl _) (by simp) ?_
 case hd => rfl
 case hg => rfl
 case hr => first | (go_simp; done) | (go_simp; rfl)
 case hp => exact Reps.snoc (Reps.none _ _) (k24_mkM _ _ _ nA) rfl
 intro v38 w38 ho38 hb38 _ _
 obtain ⟨A38, c38, rfl, hc38, hC38⟩ := Kd.R_reads ho38
 have HC38 := Aside0.mk hC38; have Hc38 := Aside0.mk hc38
 clear ho38 hC38 hc38
 refine hK.out _ _ ((below_step hHeld hb38)) (fun hHeld => ?_)
 clear hK K
 refine norm_ (a' := ?_) ?_ ?_
 rotate_left
 ·show Act.put _ (some 61) _ = _
  simp only [Act.put, List.setIfInBounds_toArray, List.set_cons_zero, List.set_cons_succ, i64_w, i32_w]
  rfl
 refine one_ (i := 39) (N := some 62) (tf 41 45) rfl rfl (one_of HT_.out (by kernel_rfl)) (by decide) (fun K hK => ?_)
 refine goes_ Tryd.func17 (by kernel_rfl) rfl #[.slice A38 [nA].length c38] (by rfl) rfl rfl (by simp only [List.map_toArray, List.map_cons, List.map_nil]; rfl) ?_
 refine (node_Of A38 c38 [nA] _ HC38.out Hc38.out wf_A (by decide)).mono ?_
 rintro e w939 ⟨b39, rfl, _, hs39, hb⟩
 refine ⟨_, rfl, ?_⟩
 have HS39 := Aside0.mk (show SetO w939 (some b39) [nA] from hs39)
 clear hs39
 refine hK.out _ _ (below_step hHeld hb) (fun hHeld => ?_)
 clear hK K
 refine norm_ (a' := ?_) ?_ ?_
 rotate_left
 ·show Act.put _ (some 62) _ = _
  simp only [Act.put, List.setIfInBounds_toArray, List.set_cons_zero, List.set_cons_succ, i64_w, i32_w]
  rfl
 refine one_ (i := 41) (N := some 64) (tf 42 44) rfl rfl (one_of HT_.out (by kernel_rfl)) (by decide) (fun K hK => ?_)
 refine goes_ Tryd.func25 (by kernel_rfl) rfl #[.agg #[.map (some b39)], .agg #[.int .i64 2, .int .i64 0, .string ⟨#[84]⟩]] (by rfl) rfl rfl (by simp only [List.map_toArray, List.map_cons, List.map_nil]; rfl) ?_
 refine (aw_hasnB (some b39) _ HS39.out).mono ?_
 rintro e w941 ⟨rfl, hb⟩
 refine ⟨_, rfl, ?_⟩
 refine hK.out _ _ (below_step hHeld hb) (fun hHeld => ?_)
 clear hK K
 refine norm_ (a' := ?_) ?_ ?_
 rotate_left
 ·show Act.put _ (some 64) _ = _
  simp only [Act.put, List.setIfInBounds_toArray, List.set_cons_zero, List.set_cons_succ, i64_w, i32_w]
  rfl
 refine pure_ (i := 42) (N := some 65) (v := ?_) (a' := ?_) (tf 43 43) rfl rfl (any_of HT_.out (by kernel_rfl)) (fun _ _ _ h => h) (Or.inl ⟨by rfl, ?_⟩) ?_ ?_
 rotate_left
 ·intro w'
  go_simp
  with_reducible rfl
 rotate_left
 ·simp only [Act.put, List.setIfInBounds_toArray, List.set_cons_zero, List.set_cons_succ, i64_w, i32_w]
  rfl
 refine pure_ (i := 43) (N := some 66) (v := ?_) (a' := ?_) (tf 44 42) rfl rfl (any_of HT_.out (by kernel_rfl)) (fun _ _ _ h => h) (Or.inl ⟨by rfl, ?_⟩) ?_ ?_
 rotate_left
 ·intro w'
  go_simp
  with_reducible rfl
 rotate_left
 ·simp only [Act.put, List.setIfInBounds_toArray, List.set_cons_zero, List.set_cons_succ, i64_w, i32_w]
  rfl
 refine pure_ (i := 44) (N := some 67) (v := ?_) (a' := ?_) (tf 45 41) rfl rfl (any_of HT_.out (by kernel_rfl)) (fun _ _ _ h => h) (Or.inl ⟨by rfl, ?_⟩) ?_ ?_
 rotate_left
 ·intro w'
  go_simp
  with_reducible rfl
 rotate_left
 ·simp only [Act.put, List.setIfInBounds_toArray, List.set_cons_zero, List.set_cons_succ, i64_w, i32_w]
  rfl
 refine take_ (i := 45) (N := some 68) (v := ?_) (a' := ?_) (tf 46 40) rfl rfl (take_ofW HT_.out HW_.out (by kernel_rfl)) (fun _ _ _ h => h) (Or.inl ⟨by rfl, ?_⟩) hHeld ?_ ?_
 rotate_left
 ·intro w' s0
  obtain ⟨x0, x1, x2, _, _, _⟩ := bk3 (blk_below H15.out s0)
  go_simp
  with_reducible rfl
 rotate_left
 ·simp only [Act.put, List.setIfInBounds_toArray, List.set_cons_zero, List.set_cons_succ, i64_w, i32_w]
  rfl
 refine take_ (i := 48) (N := some 71) (v := ?_) (a' := ?_) #[true, true, true, true, true, true, true, true, true, true, true, true, true, true, true, true, true, true, true, true, true, true, true, true, true, true, true, true, true, true, true, true, true, true, true, true, true, true, true, true, true, true, true, true, true, true, false, false, true, false, false, false, false, false, false, false, false, false, false, false, false, false, false, false, false, false, false, false, false, false, false, false, false, false, false, false, false, false, false, false, false, false, false, false, false, false] rfl rfl (take_ofW HT_.out HW_.out (by kernel_rfl)) (fun _ _ _ h => h) (Or.inl ⟨by rfl, ?_⟩) hHeld ?_ ?_
 rotate_left
 ·intro w' s0
  obtain ⟨x0, _⟩ := bk1 (blk_below H35.out s0)
  go_simp
  with_reducible rfl
 rotate_left
 ·simp only [Act.put, List.setIfInBounds_toArray, List.set_cons_zero, List.set_cons_succ, i64_w, i32_w]
  rfl
 refine one_ (i := 46) (N := some 69) #[true, true, true, true, true, true, true, true, true, true, true, true, true, true, true, true, true, true, true, true, true, true, true, true, true, true, true, true, true, true, true, true, true, true, true, true, true, true, true, true, true, true, true, true, true, true, true, false, true, false, false, false, false, false, false, false, false, false, false, false, false, false, false, false, false, false, false, false, false, false, false, false, false, false, false, false, false, false, false, false, false, false, false, false, false, false] rfl rfl (one_of HT_.out (by kernel_rfl)) (by decide) (fun K hK => ?_)
 refine Kd.R_lit_step k24 _ 24 ?hg (N := 69) ?hd (xs := [nA]) (inner := [.int .i64 1, .int .i64 3, .string ⟨#[84]⟩]) (ok := fun _ => True) (okp := fun _ => True) ?hr ?hp (fun _ hk => hk) trivial (Below.refl _ _) (Nat.le_refl _) (by simp) ?_
 case hd => rfl
 case hg => rfl
 case hr => first | (go_simp; done) | (go_simp; rfl)
 case hp => exact Reps.snoc (Reps.none _ _) (k24_mkM _ _ _ nA) rfl
 intro v46 w46 ho46 hb46 _ _
 obtain ⟨A46, c46, rfl, hc46, hC46⟩ := Kd.R_reads ho46
 have HC46 := Aside0.mk hC46; have Hc46 := Aside0.mk hc46
 clear ho46 hC46 hc46
 refine hK.out _ _ ((below_step hHeld hb46)) (fun hHeld => ?_)
 clear hK K
 refine norm_ (a' := ?_) ?_ ?_
 rotate_left
 ·show Act.put _ (some 69) _ = _
  simp only [Act.put, List.setIfInBounds_toArray, List.set_cons_zero, List.set_cons_succ, i64_w, i32_w]
  rfl
 refine one_ (i := 47) (N := some 70) (tf 49 37) rfl rfl (one_of HT_.out (by kernel_rfl)) (by decide) (fun K hK => ?_)
 refine goes_ Tryd.func17 (by kernel_rfl) rfl #[.slice A46 [nA].length c46] (by rfl) rfl rfl (by simp only [List.map_toArray, List.map_cons, List.map_nil]; rfl) ?_
 refine (node_Of A46 c46 [nA] _ HC46.out Hc46.out wf_A (by decide)).mono ?_
 rintro e w947 ⟨b47, rfl, _, hs47, hb⟩
 refine ⟨_, rfl, ?_⟩
 have HS47 := Aside0.mk (show SetO w947 (some b47) [nA] from hs47)
 clear hs47
 refine hK.out _ _ (below_step hHeld hb) (fun hHeld => ?_)
 clear hK K
 refine norm_ (a' := ?_) ?_ ?_
 rotate_left
 ·show Act.put _ (some 70) _ = _
  simp only [Act.put, List.setIfInBounds_toArray, List.set_cons_zero, List.set_cons_succ, i64_w, i32_w]
  rfl
 refine one_ (i := 49) (N := some 72) (tf 50 36) rfl rfl (one_of HT_.out (by kernel_rfl)) (by decide) (fun K hK => ?_)
 refine goes_ Tryd.func23 (by kernel_rfl) rfl #[.agg #[.map (some b47)], .agg #[.map (some b)]] (by rfl) rfl rfl (by simp only [List.map_toArray, List.map_cons, List.map_nil]; rfl) ?_
 refine (aw_in (some b47) (some b) _ HS47.out (HS5.out.below hHeld)).mono ?_
 rintro e w949 ⟨rfl, hb⟩
 refine ⟨_, rfl, ?_⟩
 refine hK.out _ _ (below_step hHeld hb) (fun hHeld => ?_)
 clear hK K
 refine norm_ (a' := ?_) ?_ ?_
 rotate_left
 ·show Act.put _ (some 72) _ = _
  simp only [Act.put, List.setIfInBounds_toArray, List.set_cons_zero, List.set_cons_succ, i64_w, i32_w]
  rfl
 refine pure_ (i := 50) (N := some 73) (v := ?_) (a' := ?_) (tf 51 35) rfl rfl (any_of HT_.out (by kernel_rfl)) (fun _ _ _ h => h) (Or.inl ⟨by rfl, ?_⟩) ?_ ?_
 rotate_left
 ·intro w'
  go_simp
  with_reducible rfl
 rotate_left
 ·simp only [Act.put, List.setIfInBounds_toArray, List.set_cons_zero, List.set_cons_succ, i64_w, i32_w]
  rfl
 refine pure_ (i := 51) (N := some 74) (v := ?_) (a' := ?_) (tf 52 34) rfl rfl (any_of HT_.out (by kernel_rfl)) (fun _ _ _ h => h) (Or.inl ⟨by rfl, ?_⟩) ?_ ?_
 rotate_left
 ·intro w'
  go_simp
  with_reducible rfl
 rotate_left
 ·simp only [Act.put, List.setIfInBounds_toArray, List.set_cons_zero, List.set_cons_succ, i64_w, i32_w]
  rfl
 refine take_ (i := 52) (N := some 75) (v := ?_) (a' := ?_) (tf 53 33) rfl rfl (take_ofW HT_.out HW_.out (by kernel_rfl)) (fun _ _ _ h => h) (Or.inl ⟨by rfl, ?_⟩) hHeld ?_ ?_
 rotate_left
 ·intro w' s0
  obtain ⟨x0, _⟩ := bk1 (blk_below H35.out s0)
  go_simp
  with_reducible rfl
 rotate_left
 ·simp only [Act.put, List.setIfInBounds_toArray, List.set_cons_zero, List.set_cons_succ, i64_w, i32_w]
  rfl
 refine take_ (i := 53) (N := some 76) (v := ?_) (a' := ?_) (tf 54 32) rfl rfl (take_ofW HT_.out HW_.out (by kernel_rfl)) (fun _ _ _ h => h) (Or.inl ⟨by rfl, ?_⟩) hHeld ?_ ?_
 rotate_left
 ·intro w' s0
  obtain ⟨x0, x1, x2, _, _, _⟩ := bk3 (blk_below H15.out s0)
  go_simp
  with_reducible rfl
 rotate_left
 ·simp only [Act.put, List.setIfInBounds_toArray, List.set_cons_zero, List.set_cons_succ, i64_w, i32_w]
  rfl
 refine one_ (i := 54) (N := some 77) (tf 55 31) rfl rfl (one_of HT_.out (by kernel_rfl)) (by decide) (fun K hK => ?_)
 refine Kd.R_lit_step k24 _ 24 ?hg (N := 77) ?hd (xs := [nA]) (inner := [.int .i64 1, .int .i64 3, .string ⟨#[84]⟩]) (ok := fun _ => True) (okp := fun _ => True) ?hr ?hp (fun _ hk => hk) trivial (Below.refl _ _) (Nat.le_refl _) (by simp) ?_
 case hd => rfl
 case hg => rfl
 case hr => first | (go_simp; done) | (go_simp; rfl)
 case hp => exact Reps.snoc (Reps.none _ _) (k24_mkM _ _ _ nA) rfl
 intro v54 w54 ho54 hb54 _ _
 obtain ⟨A54, c54, rfl, hc54, hC54⟩ := Kd.R_reads ho54
 have HC54 := Aside0.mk hC54; have Hc54 := Aside0.mk hc54
 clear ho54 hC54 hc54
 refine hK.out _ _ ((below_step hHeld hb54)) (fun hHeld => ?_)
 clear hK K
 refine norm_ (a' := ?_) ?_ ?_
 rotate_left
 ·show Act.put _ (some 77) _ = _
  simp only [Act.put, List.setIfInBounds_toArray, List.set_cons_zero, List.set_cons_succ, i64_w, i32_w]
  rfl
 refine one_ (i := 55) (N := some 78) (tf 56 30) rfl rfl (one_of HT_.out (by kernel_rfl)) (by decide) (fun K hK => ?_)
 refine goes_ Tryd.func17 (by kernel_rfl) rfl #[.slice A54 [nA].length c54] (by rfl) rfl rfl (by simp only [List.map_toArray, List.map_cons, List.map_nil]; rfl) ?_
 refine (node_Of A54 c54 [nA] _ HC54.out Hc54.out wf_A (by decide)).mono ?_
 rintro e w955 ⟨b55, rfl, _, hs55, hb⟩
 refine ⟨_, rfl, ?_⟩
 have HS55 := Aside0.mk (show SetO w955 (some b55) [nA] from hs55)
 clear hs55
 refine hK.out _ _ (below_step hHeld hb) (fun hHeld => ?_)
 clear hK K
 refine norm_ (a' := ?_) ?_ ?_
 rotate_left
 ·show Act.put _ (some 78) _ = _
  simp only [Act.put, List.setIfInBounds_toArray, List.set_cons_zero, List.set_cons_succ, i64_w, i32_w]
  rfl
 refine one_ (i := 56) (N := some 79) (tf 57 29) rfl rfl (one_of HT_.out (by kernel_rfl)) (by decide) (fun K hK => ?_)
 refine goes_ Tryd.func23 (by kernel_rfl) rfl #[.agg #[.map (some b)], .agg #[.map (some b55)]] (by rfl) rfl rfl (by simp only [List.map_toArray, List.map_cons, List.map_nil]; rfl) ?_
 refine (aw_nin (some b) (some b55) _ (HS5.out.below hHeld) HS55.out).mono ?_
 rintro e w956 ⟨rfl, hb⟩
 refine ⟨_, rfl, ?_⟩
 refine hK.out _ _ (below_step hHeld hb) (fun hHeld => ?_)
 clear hK K
 refine norm_ (a' := ?_) ?_ ?_
 rotate_left
 ·show Act.put _ (some 79) _ = _
  simp only [Act.put, List.setIfInBounds_toArray, List.set_cons_zero, List.set_cons_succ, i64_w, i32_w]
  rfl
 refine pure_ (i := 57) (N := some 80) (v := ?_) (a' := ?_) (tf 58 28) rfl rfl (any_of HT_.out (by kernel_rfl)) (fun _ _ _ h => h) (Or.inl ⟨by rfl, ?_⟩) ?_ ?_
 rotate_left
 ·intro w'
  go_simp
  with_reducible rfl
 rotate_left
 ·simp only [Act.put, List.setIfInBounds_toArray, List.set_cons_zero, List.set_cons_succ, i64_w, i32_w]
  rfl
 refine pure_ (i := 58) (N := some 81) (v := ?_) (a' := ?_) (tf 59 27) rfl rfl (any_of HT_.out (by kernel_rfl)) (fun _ _ _ h => h) (Or.inl ⟨by rfl, ?_⟩) ?_ ?_
 rotate_left
 ·intro w'
  go_simp
  with_reducible rfl
 rotate_left
 ·simp only [Act.put, List.setIfInBounds_toArray, List.set_cons_zero, List.set_cons_succ, i64_w, i32_w]
  rfl
 refine pure_ (i := 59) (N := some 82) (v := ?_) (a' := ?_) (tf 60 26) rfl rfl (any_of HT_.out (by kernel_rfl)) (fun _ _ _ h => h) (Or.inl ⟨by rfl, ?_⟩) ?_ ?_
 rotate_left
 ·intro w'
  go_simp
  with_reducible rfl
 rotate_left
 ·simp only [Act.put, List.setIfInBounds_toArray, List.set_cons_zero, List.set_cons_succ, i64_w, i32_w]
  rfl
 refine take_ (i := 60) (N := some 83) (v := ?_) (a' := ?_) (tf 61 25) rfl rfl (take_ofW HT_.out HW_.out (by kernel_rfl)) (fun _ _ _ h => h) (Or.inl ⟨by rfl, ?_⟩) hHeld ?_ ?_
 rotate_left
 ·intro w' s0
  obtain ⟨x0, _⟩ := bk1 (blk_below H35.out s0)
  go_simp
  with_reducible rfl
 rotate_left
 ·simp only [Act.put, List.setIfInBounds_toArray, List.set_cons_zero, List.set_cons_succ, i64_w, i32_w]
  rfl
 refine one_ (i := 61) (N := some 84) (tf 62 24) rfl rfl (one_of HT_.out (by kernel_rfl)) (by decide) (fun K hK => ?_)
 refine goes_ Tryd.func24 (by kernel_rfl) rfl #[.agg #[.map (some b)], .string ⟨#[85]⟩] (by rfl) rfl rfl (by simp only [List.map_toArray, List.map_cons, List.map_nil]; rfl) ?_
 refine (aw_typed (some b) _ (HS5.out.below hHeld)).mono ?_
 rintro e w961 ⟨b61, rfl, hs61, hb⟩
 refine ⟨_, rfl, ?_⟩
 have HS61 := Aside0.mk hs61
 clear hs61
 refine hK.out _ _ (below_step hHeld hb) (fun hHeld => ?_)
 clear hK K
 refine norm_ (a' := ?_) ?_ ?_
 rotate_left
 ·show Act.put _ (some 84) _ = _
  simp only [Act.put, List.setIfInBounds_toArray, List.set_cons_zero, List.set_cons_succ, i64_w, i32_w]
  rfl
 refine one_ (i := 62) (N := some 85) (tf 63 23) rfl rfl (one_of HT_.out (by kernel_rfl)) (by decide) (fun K hK => ?_)
 refine goes_ Tryd.func26 (by kernel_rfl) rfl #[.agg #[.map (some b61)]] (by rfl) rfl rfl (by simp only [List.map_toArray, List.map_cons, List.map_nil]; rfl) ?_
 refine (aw_len0 (some b61) _ HS61.out).mono ?_
 rintro e w962 ⟨rfl, hb⟩
 refine ⟨_, rfl, ?_⟩
 refine hK.out _ _ (below_step hHeld hb) (fun hHeld => ?_)
 clear hK K
 refine norm_ (a' := ?_) ?_ ?_
 rotate_left
 ·show Act.put _ (some 85) _ = _
  simp only [Act.put, List.setIfInBounds_toArray, List.set_cons_zero, List.set_cons_succ, i64_w, i32_w]
  rfl
 refine pure_ (i := 63) (N := some 86) (v := ?_) (a' := ?_) (tf 64 22) rfl rfl (any_of HT_.out (by kernel_rfl)) (fun _ _ _ h => h) (Or.inl ⟨by rfl, ?_⟩) ?_ ?_
 rotate_left
 ·intro w'
  go_simp
  with_reducible rfl
 rotate_left
 ·simp only [Act.put, List.setIfInBounds_toArray, List.set_cons_zero, List.set_cons_succ, i64_w, i32_w]
  rfl
 refine pure_ (i := 64) (N := some 87) (v := ?_) (a' := ?_) (tf 65 21) rfl rfl (any_of HT_.out (by kernel_rfl)) (fun _ _ _ h => h) (Or.inl ⟨by rfl, ?_⟩) ?_ ?_
 rotate_left
 ·intro w'
  go_simp
  with_reducible rfl
 rotate_left
 ·simp only [Act.put, List.setIfInBounds_toArray, List.set_cons_zero, List.set_cons_succ, i64_w, i32_w]
  rfl
 refine pure_ (i := 65) (N := some 88) (v := ?_) (a' := ?_) (tf 66 20) rfl rfl (any_of HT_.out (by kernel_rfl)) (fun _ _ _ h => h) (Or.inl ⟨by rfl, ?_⟩) ?_ ?_
 rotate_left
 ·intro w'
  go_simp
  with_reducible rfl
 rotate_left
 ·simp only [Act.put, List.setIfInBounds_toArray, List.set_cons_zero, List.set_cons_succ, i64_w, i32_w]
  rfl
 refine pure_ (i := 66) (N := some 89) (v := ?_) (a' := ?_) (tf 67 19) rfl rfl (any_of HT_.out (by kernel_rfl)) (fun _ _ _ h => h) (Or.inl ⟨by rfl, ?_⟩) ?_ ?_
 rotate_left
 ·intro w'
  go_simp
  with_reducible rfl
 rotate_left
 ·simp only [Act.put, List.setIfInBounds_toArray, List.set_cons_zero, List.set_cons_succ, i64_w, i32_w]
  rfl
 refine pure_ (i := 67) (N := some 90) (v := ?_) (a' := ?_) (tf 68 18) rfl rfl (any_of HT_.out (by kernel_rfl)) (fun _ _ _ h => h) (Or.inl ⟨by rfl, ?_⟩) ?_ ?_
 rotate_left
 ·intro w'
  go_simp
  with_reducible rfl
 rotate_left
 ·simp only [Act.put, List.setIfInBounds_toArray, List.set_cons_zero, List.set_cons_succ, i64_w, i32_w]
  rfl
 refine pure_ (i := 68) (N := some 91) (v := ?_) (a' := ?_) (tf 69 17) rfl rfl (any_of HT_.out (by kernel_rfl)) (fun _ _ _ h => h) (Or.inl ⟨by rfl, ?_⟩) ?_ ?_
 rotate_left
 ·intro w'
  go_simp
  with_reducible rfl
 rotate_left
 ·simp only [Act.put, List.setIfInBounds_toArray, List.set_cons_zero, List.set_cons_succ, i64_w, i32_w]
  rfl
 refine pure_ (i := 69) (N := some 92) (v := ?_) (a' := ?_) (tf 70 16) rfl rfl (any_of HT_.out (by kernel_rfl)) (fun _ _ _ h => h) (Or.inl ⟨by rfl, ?_⟩) ?_ ?_
 rotate_left
 ·intro w'
  go_simp
  with_reducible rfl
 rotate_left
 ·simp only [Act.put, List.setIfInBounds_toArray, List.set_cons_zero, List.set_cons_succ, i64_w, i32_w]
  rfl
 refine pure_ (i := 70) (N := some 93) (v := ?_) (a' := ?_) (tf 71 15) rfl rfl (any_of HT_.out (by kernel_rfl)) (fun _ _ _ h => h) (Or.inl ⟨by rfl, ?_⟩) ?_ ?_
 rotate_left
 ·intro w'
  go_simp
  with_reducible rfl
 rotate_left
 ·simp only [Act.put, List.setIfInBounds_toArray, List.set_cons_zero, List.set_cons_succ, i64_w, i32_w]
  rfl
 refine pure_ (i := 71) (N := some 94) (v := ?_) (a' := ?_) (tf 72 14) rfl rfl (any_of HT_.out (by kernel_rfl)) (fun _ _ _ h => h) (Or.inl ⟨by rfl, ?_⟩) ?_ ?_
 rotate_left
 ·intro w'
  go_simp
  with_reducible rfl
 rotate_left
 ·simp only [Act.put, List.setIfInBounds_toArray, List.set_cons_zero, List.set_cons_succ, i64_w, i32_w]
  rfl
 refine pure_ (i := 72) (N := some 95) (v := ?_) (a' := ?_) (tf 73 13) rfl rfl (any_of HT_.out (by kernel_rfl)) (fun _ _ _ h => h) (Or.inl ⟨by rfl, ?_⟩) ?_ ?_
 rotate_left
 ·intro w'
  go_simp
  with_reducible rfl
 rotate_left
 ·simp only [Act.put, List.setIfInBounds_toArray, List.set_cons_zero, List.set_cons_succ, i64_w, i32_w]
  rfl
 refine pure_ (i := 75) (N := some 98) (v := ?_) (a' := ?_) #[true, true, true, true, true, true, true, true, true, true, true, true, true, true, true, true, true, true, true, true, true, true, true, true, true, true, true, true, true, true, true, true, true, true, true, true, true, true, true, true, true, true, true, true, true, true, true, true, true, true, true, true, true, true, true, true, true, true, true, true, true, true, true, true, true, true, true, true, true, true, true, true, true, false, false, true, false, false, false, false, false, false, false, false, false, false] rfl rfl (any_of HT_.out (by kernel_rfl)) (fun _ _ _ h => h) (Or.inl ⟨by rfl, ?_⟩) ?_ ?_
 rotate_left
 ·intro w'
  go_simp
  with_reducible rfl
 rotate_left
 ·simp only [Act.put, List.setIfInBounds_toArray, List.set_cons_zero, List.set_cons_succ, i64_w, i32_w]
  rfl
 refine take_ (i := 73) (N := some 96) (v := ?_) (a' := ?_) #[true, true, true, true, true, true, true, true, true, true, true, true, true, true, true, true, true, true, true, true, true, true, true, true, true, true, true, true, true, true, true, true, true, true, true, true, true, true, true, true, true, true, true, true, true, true, true, true, true, true, true, true, true, true, true, true, true, true, true, true, true, true, true, true, true, true, true, true, true, true, true, true, true, true, false, true, false, false, false, false, false, false, false, false, false, false] rfl rfl (take_ofW HT_.out HW_.out (by kernel_rfl)) (fun _ _ _ h => h) (Or.inl ⟨by rfl, ?_⟩) hHeld ?_ ?_
 rotate_left
 ·intro w' s0
  obtain ⟨x0, x1, x2, x3, x4, x5, x6⟩ := HC5.out w' s0
  go_simp
  with_reducible rfl
 rotate_left
 ·simp only [Act.put, List.setIfInBounds_toArray, List.set_cons_zero, List.set_cons_succ, i64_w, i32_w]
  rfl
 refine take_ (i := 74) (N := some 97) (v := ?_) (a' := ?_) (tf 76 10) rfl rfl (take_ofW HT_.out HW_.out (by kernel_rfl)) (fun _ _ _ h => h) (Or.inl ⟨by rfl, ?_⟩) hHeld ?_ ?_
 rotate_left
 ·intro w' s0
  obtain ⟨x0, x1, x2, _, _, _⟩ := bk3 (blk_below H25.out s0)
  go_simp
  with_reducible rfl
 rotate_left
 ·simp only [Act.put, List.setIfInBounds_toArray, List.set_cons_zero, List.set_cons_succ, i64_w, i32_w]
  rfl
 refine pure_ (i := 76) (N := some 99) (v := ?_) (a' := ?_) (tf 77 9) rfl rfl (any_of HT_.out (by kernel_rfl)) (fun _ _ _ h => h) (Or.inl ⟨by rfl, ?_⟩) ?_ ?_
 rotate_left
 ·intro w'
  go_simp
  with_reducible rfl
 rotate_left
 ·simp only [Act.put, List.setIfInBounds_toArray, List.set_cons_zero, List.set_cons_succ, i64_w, i32_w]
  rfl
 refine pure_ (i := 77) (N := some 100) (v := ?_) (a' := ?_) (tf 78 8) rfl rfl (any_of HT_.out (by kernel_rfl)) (fun _ _ _ h => h) (Or.inl ⟨by rfl, ?_⟩) ?_ ?_
 rotate_left
 ·intro w'
  go_simp
  with_reducible rfl
 rotate_left
 ·simp only [Act.put, List.setIfInBounds_toArray, List.set_cons_zero, List.set_cons_succ, i64_w, i32_w]
  rfl
 refine pure_ (i := 78) (N := some 101) (v := ?_) (a' := ?_) (tf 79 7) rfl rfl (any_of HT_.out (by kernel_rfl)) (fun _ _ _ h => h) (Or.inl ⟨by rfl, ?_⟩) ?_ ?_
 rotate_left
 ·intro w'
  go_simp
  with_reducible rfl
 rotate_left
 ·simp only [Act.put, List.setIfInBounds_toArray, List.set_cons_zero, List.set_cons_succ, i64_w, i32_w]
  rfl
 refine pure_ (i := 79) (N := some 102) (v := ?_) (a' := ?_) (tf 80 6) rfl rfl (any_of HT_.out (by kernel_rfl)) (fun _ _ _ h => h) (Or.inl ⟨by rfl, ?_⟩) ?_ ?_
 rotate_left
 ·intro w'
  go_simp
  with_reducible rfl
 rotate_left
 ·simp only [Act.put, List.setIfInBounds_toArray, List.set_cons_zero, List.set_cons_succ, i64_w, i32_w]
  rfl
 refine take_ (i := 80) (N := some 103) (v := ?_) (a' := ?_) (tf 81 5) rfl rfl (take_ofW HT_.out HW_.out (by kernel_rfl)) (fun _ _ _ h => h) (Or.inl ⟨by rfl, ?_⟩) hHeld ?_ ?_
 rotate_left
 ·intro w' s0
  obtain ⟨x0, x1, x2, _, _, _⟩ := bk3 (blk_below H15.out s0)
  go_simp
  with_reducible rfl
 rotate_left
 ·simp only [Act.put, List.setIfInBounds_toArray, List.set_cons_zero, List.set_cons_succ, i64_w, i32_w]
  rfl
 refine one_ (i := 81) (N := some 104) (tf 82 4) rfl rfl (one_of HT_.out (by kernel_rfl)) (by decide) (fun K hK => ?_)
 refine goes_ Tryd.func10 (by kernel_rfl) rfl #[.slice none 0 0, .agg #[.int .i64 1, .int .i64 3, .string ⟨#[84]⟩]] (by rfl) rfl rfl (by simp only [List.map_toArray, List.map_cons, List.map_nil]; rfl) ?_
 refine (node_First.calls 60 none 0 [] 1 3 ⟨#[84]⟩ [] _ (Kd.C_nil _ _) (Nat.le_refl _) first_A).mono ?_
 rintro e w981 ⟨v81, rfl, hr81, hb⟩
 refine ⟨_, rfl, ?_⟩
 obtain ⟨A81, c81, e81⟩ := Kd.R_slice hr81
 subst e81
 clear hr81
 refine hK.out _ _ (below_step hHeld hb) (fun hHeld => ?_)
 clear hK K
 refine norm_ (a' := ?_) ?_ ?_
 rotate_left
 ·show Act.put _ (some 104) _ = _
  simp only [Act.put, List.setIfInBounds_toArray, List.set_cons_zero, List.set_cons_succ, i64_w, i32_w]
  rfl
 refine pure_ (i := 82) (N := some 105) (v := ?_) (a' := ?_) (tf 83 3) rfl rfl (any_of HT_.out (by kernel_rfl)) (fun _ _ _ h => h) (Or.inl ⟨by rfl, ?_⟩) ?_ ?_
 rotate_left
 ·intro w'
  go_simp
  with_reducible rfl
 rotate_left
 ·simp only [Act.put, List.setIfInBounds_toArray, List.set_cons_zero, List.set_cons_succ, i64_w, i32_w]
  rfl
 refine pure_ (i := 83) (N := some 106) (v := ?_) (a' := ?_) (tf 84 2) rfl rfl (any_of HT_.out (by kernel_rfl)) (fun _ _ _ h => h) (Or.inl ⟨by rfl, ?_⟩) ?_ ?_
 rotate_left
 ·intro w'
  go_simp
  with_reducible rfl
 rotate_left
 ·simp only [Act.put, List.setIfInBounds_toArray, List.set_cons_zero, List.set_cons_succ, i64_w, i32_w]
  rfl
 refine pure_ (i := 84) (N := some 107) (v := ?_) (a' := ?_) (tf 85 1) rfl rfl (any_of HT_.out (by kernel_rfl)) (fun _ _ _ h => h) (Or.inl ⟨by rfl, ?_⟩) ?_ ?_
 rotate_left
 ·intro w'
  go_simp
  with_reducible rfl
 rotate_left
 ·simp only [Act.put, List.setIfInBounds_toArray, List.set_cons_zero, List.set_cons_succ, i64_w, i32_w]
  rfl
 refine pure_ (i := 85) (N := some 0) (v := ?_) (a' := ?_) (tf 86 0) rfl rfl (any_of HT_.out (by kernel_rfl)) (fun _ _ _ h => h) (Or.inl ⟨by rfl, ?_⟩) ?_ ?_
 rotate_left
 ·intro w'
  go_simp
  with_reducible rfl
 rotate_left
 ·simp only [Act.put, List.setIfInBounds_toArray, List.set_cons_zero, List.set_cons_succ, i64_w, i32_w]
  rfl
 refine done_ (done_of HT_.out (by kernel_rfl)) ?_
 go_wp2
 go_ret
 exact ⟨rfl, below_step HB5.out hHeld⟩
section
variable {α : Type}
theorem Ev.pos {c : Prop} [Decidable c] {A B : Nat → Option α} {r : α} (h : c) (k : Ev A r) : Ev (fun n => if c then A n else B n) r := Ev.congr (fun n => if_pos h) k
theorem Ev.neg {c : Prop} [Decidable c] {A B : Nat → Option α} {r : α} (h : ¬ c) (k : Ev B r) : Ev (fun n => if c then A n else B n) r := Ev.congr (fun n => if_neg h) k
theorem Ev.one {β : Type} {a : Option β} {b : β} {f : Nat → β → Option α} {r : α} (h : a = some b) (k : Ev (fun n => f n b) r) : Ev (fun n => a.bind (f n)) r := Ev.congr (fun n => by rw [h]; rfl) k
theorem Ev.eq {g : Nat → Option α} {r r' : α} (k : Ev g r) (h : r = r') : Ev g r' := h ▸ k
end
theorem gb_step {w w1 w2 : World} {b : Nat} {row : Option Nat} (h : w.grownBy w1 (some b)) (k : w1.grownBy w2 row) (hq : ∀ q, row = some q → w.heap.size ≤ q ∨ q = b) : w.grownBy w2 (some b) := by
 refine ⟨k.os.trans h.os, k.tape.trans h.tape, k.output.trans h.output, Nat.le_trans h.size k.size, fun i hi hne => ?_⟩
 refine (k.block i (Nat.lt_of_lt_of_le hi h.size) ?_).trans (h.block i hi hne)
 intro e
 rcases hq i e.symm with hq | hq
 ·omega
 ·exact hne (by rw [hq])
theorem gb_refl (w : World) (row : Option Nat) : w.grownBy w row := ⟨rfl, rfl, rfl, Nat.le_refl _, fun _ _ _ => rfl⟩
theorem foldl_addR_mem (z : Nd) : ∀ (l r : List Nd), z ∈ l.foldl addR r ↔ z ∈ r ∨ z ∈ l
 | [], r => by simp
 | x :: l, r => by rw [List.foldl_cons, foldl_addR_mem z l, addR_mem, List.mem_cons]; exact or_assoc
theorem foldl_addR_up : ∀ (l r : List Nd), Up r → Up (l.foldl addR r)
 | [], r, h => h
 | x :: l, r, h => foldl_addR_up l _ (addR_up h)
theorem foldl_addR_perm {l l' r : List Nd} (hr : Up r) (h : l.Perm l') : l.foldl addR r = l'.foldl addR r :=
 up_ext (foldl_addR_up _ _ hr) (foldl_addR_up _ _ hr) (fun x => by rw [foldl_addR_mem, foldl_addR_mem, h.mem_iff])
set_option maxRecDepth 100000 in
set_option maxHeartbeats 8000000 in
theorem maps_Copy (b : Nat) (m : Option Nat) (s r : List Nd) (w : World) (h : SetR w b s) (h2 : SetO w m r) (hmb : ∀ b', m = some b' → some b' ≠ some b) (hlen : s.length + r.length ≤ 1000000) :
  Calls Tryd.prog 39 #[.map (some b), .map m] w fun e w' => e = .returned (.tuple #[]) ∧ SetR w' b (r.foldl addR s) ∧ w.grownBy w' (some b) := by
 have HMB := Aside0.mk hmb
 have HS0 := Aside0.mk h; have HM0 := Aside0.mk h2
 have HBL := Aside0.mk h.lt; have HUP := Aside0.mk h.up
 clear h h2
 go_enter Tryd.func39, Tryd.ntmps39
 go_wp2_with (at_range; refine RunO.start_op HM0.out rfl (.tmp 6) rfl rfl ?_)
 intro w1 hr hb
 have HR := Aside0.mk hr
 have HS1 := Aside0.mk (HS0.out.below hb)
 have HG1 : Aside0 (w.grownBy w1 (some b)) := ⟨gb_step (gb_refl w _) (grown_of_below hb none) (fun q hq => by cases hq)⟩
 clear hr hb HS0 HM0
 obtain ⟨q, hq⟩ : ∃ q, q = w.heap.size := ⟨_, rfl⟩
 rw [← hq] at HR ⊢
 have HQ := Aside0.mk hq
 clear hq
 go_wp2_with fail
 go_loopw [8] (fun _ wr => ∃ done : List Nd, Aside0 (RunO wr m q r done) ∧ Aside0 (SetR wr b (done.foldl addR s)) ∧ Aside0 (w.grownBy wr (some b)) ∧ Aside0 (done.length ≤ r.length)) (fun _ wr => leftO m q wr)
 case atStart => exact ⟨[], HR, HS1, HG1, ⟨Nat.zero_le _⟩⟩
 case round =>
  clear HR HS1 HG1
  obtain ⟨done, HR, HS, HG, HD⟩ := hrel
  go_wp2_with (at_next; refine RunO.next_op HR.out rfl (.tmp 7) rfl rfl ?_ ?_)
  ·intro hperm
   have HS9 : Aside0 (SetR wr b (r.foldl addR s)) := ⟨by rw [← foldl_addR_perm HUP.out hperm]; exact HS.out⟩
   clear hperm
   go_wp2
   go_end0
   exact ⟨rfl, HS9.out, HG.out⟩
  ·intro x w5 hx hn hl hr2 hg hsz hlt hen
   have hxw : ndW x := HR.out.set.wf x hx
   have hqb : q ≠ b := by have := HQ.out; have := HBL.out; omega
   have HN2 : Aside0 (SetR (w5.alloc (.cells #[.int .i64 x.f0, .int .i64 x.f1, .string x.f2] 24)) b (done.foldl addR s)) := ⟨(HS.out.kept hg (by simp; omega)).alloc _⟩
   have HR2 := Aside0.mk (hr2.below (below_alloc (Below.refl _ _) (.cells #[.int .i64 x.f0, .int .i64 x.f1, .string x.f2] 24)))
   have HG2 : Aside0 (w.grownBy (w5.alloc (.cells #[.int .i64 x.f0, .int .i64 x.f1, .string x.f2] 24)) (some b)) := ⟨gb_step (gb_step HG.out hg (fun q' hq' => by injection hq' with hq'; left; have := HQ.out; omega)) (World.grownBy_alloc w5 _ none) (fun q hq => by cases hq)⟩
   have HLT : Aside0 (leftO m q (w5.alloc (.cells #[.int .i64 x.f0, .int .i64 x.f1, .string x.f2] 24)) < leftO m q wr) := ⟨by
    rw [left_alloc hr2 _]; exact hlt⟩
   have HXW := Aside0.mk hxw; have HQB := Aside0.mk hqb
   have HLN : Aside0 ((done ++ [x]).length ≤ r.length) := ⟨by rw [List.length_append, List.length_singleton]; omega⟩
   have HN : Aside0 ((done.foldl addR s).length < maxLen) := ⟨by
    have := foldl_le done s; have := HD.out
    unfold maxLen; omega⟩
   unfold ndV at hen ⊢
   clear hr2 hlt hx hn hl hsz hg HR HG HS hxw hqb
   go_wp2_with (at_mapUpdate; refine SetR.update_op HN2.out rfl (.tmp 13) (.tmp 14) (.tmp 15) rfl rfl HN.out x rfl rfl HXW.out ?_)
   intro w6 hs6 hg6
   have HT3 : Aside0 (SetR w6 b ((done ++ [x]).foldl addR s)) := ⟨by rw [List.foldl_append]; exact hs6⟩
   have HLT6 : Aside0 (leftO m q w6 < leftO m q wr) := ⟨by
    rw [left_kept HR2.out hg6 HMB.out (by have := HQB.out; simpa using this)]; exact HLT.out⟩
   have HR6 := Aside0.mk (HR2.out.kept hg6 HMB.out (by have := HQB.out; simpa using this))
   have HG6 := Aside0.mk (gb_step HG2.out hg6 (fun q' hq' => by injection hq' with hq'; right; exact hq'.symm))
   clear hs6 hg6 HN2 HR2 HG2 HLT
   go_wp2
   go_roundw
   case rel => exact ⟨done ++ [x], HR6, HT3, HG6, HLN⟩
   case measure => exact HLT6.out
set_option maxRecDepth 100000 in
set_option maxHeartbeats 8000000 in
theorem set_Join (m n : Option Nat) (r s : List Nd) (w : World) (h : SetO w m r) (h2 : SetO w n s) (hlen : r.length + s.length ≤ 1000000) :
  Calls Tryd.prog 21 #[.agg #[.map m], .agg #[.map n]] w fun e w' => ∃ b, e = .returned (.agg #[.map (some b)]) ∧ w.heap.size ≤ b ∧ SetR w' b (s.foldl addR r) ∧ Below w.heap.size w w' := by
 have HB := Aside0.mk (below_alloc (below_alloc (below_alloc (Below.refl w.heap.size w) (.cells #[.map m] 50)) (.cells #[.map n] 50)) (.cells #[.map none] 50))
 have HM := Aside0.mk (((h.alloc (.cells #[.map m] 50)).alloc (.cells #[.map n] 50)).alloc (.cells #[.map none] 50))
 have HN := Aside0.mk (((h2.alloc (.cells #[.map m] 50)).alloc (.cells #[.map n] 50)).alloc (.cells #[.map none] 50))
 have HTA : Aside0 ((((w.alloc (.cells #[.map m] 50)).alloc (.cells #[.map n] 50)).alloc (.cells #[.map none] 50)).heap[w.heap.size]? = some (.cells #[.map m] 50 (0, 0))) := ⟨blk_alloc (blk_alloc (blk_new _ _) _) _⟩
 have HTB : Aside0 ((((w.alloc (.cells #[.map m] 50)).alloc (.cells #[.map n] 50)).alloc (.cells #[.map none] 50)).heap[w.heap.size + 1]? = some (.cells #[.map n] 50 (0, 0))) := ⟨by
  have := blk_alloc (blk_new (w.alloc (.cells #[.map m] 50)) (.cells #[.map n] 50)) (.cells #[.map none] 50)
  rw [World.size_alloc] at this
  exact this⟩
 have HZ : Aside0 ((((w.alloc (.cells #[.map m] 50)).alloc (.cells #[.map n] 50)).alloc (.cells #[.map none] 50)).heap[w.heap.size + 1 + 1]? = some (.cells #[.map none] 50 (0, 0))) := ⟨by
  have := blk_new ((w.alloc (.cells #[.map m] 50)).alloc (.cells #[.map n] 50)) (.cells #[.map none] 50)
  rw [World.size_alloc, World.size_alloc] at this
  exact this⟩
 have HSZ : Aside0 ((((w.alloc (.cells #[.map m] 50)).alloc (.cells #[.map n] 50)).alloc (.cells #[.map none] 50)).heap.size = w.heap.size + 1 + 1 + 1) := ⟨by rw [World.size_alloc, World.size_alloc, World.size_alloc]⟩
 have HUP := Aside0.mk h.up
 clear h h2
 go_enter Tryd.func21, Tryd.ntmps21
 go_wp2_with fail
 generalize (((w.alloc (.cells #[.map m] 50)).alloc (.cells #[.map n] 50)).alloc (.cells #[.map none] 50)) = w1 at HB HM HN HTA HTB HZ HSZ ⊢
 refine (node_Of none 0 [] w1 (Kd.C_nil _ _) (Nat.le_refl _) (fun x hx => (nomatch hx)) (Nat.zero_le _)).mono ?_
 rintro e w2 ⟨b, rfl, hb1, hs, hb2⟩
 have HS : Aside0 (SetR (w2.alloc (.cells #[.map (some b)] 50)) b []) := ⟨hs.alloc _⟩
 have hbl : Below w1.heap.size w1 (w2.alloc (.cells #[.map (some b)] 50)) := below_alloc hb2 _
 have HB2 := Aside0.mk (below_step HB.out hbl)
 have HM2 := Aside0.mk (HM.out.below hbl)
 have HN2 := Aside0.mk (HN.out.below hbl)
 have HTA2 := Aside0.mk (blk_below HTA.out hbl)
 have HTB2 := Aside0.mk (blk_below HTB.out hbl)
 have HZ2 := Aside0.mk (blk_below HZ.out hbl)
 have HS2 : Aside0 ((w2.alloc (.cells #[.map (some b)] 50)).heap[w2.heap.size]? = some (.cells #[.map (some b)] 50 (0, 0))) := ⟨blk_new _ _⟩
 have ne_of : ∀ {k : Option Nat} {t : List Nd}, SetO w1 k t → ∀ b', k = some b' → some b' ≠ some b := by
  rintro k t hk b' rfl e
  have := SetR.lt (show SetR w1 b' t from hk)
  injection e with e; omega
 have HMB := Aside0.mk (ne_of HM.out)
 have HNB := Aside0.mk (ne_of HN.out)
 have HBL : Aside0 (b < w2.heap.size) := ⟨hs.lt⟩
 have HBG : Aside0 (w.heap.size + 1 + 1 + 1 ≤ b) := ⟨by rw [← HSZ.out]; exact hb1⟩
 clear hb1 hs hb2 hbl HB HM HN HTA HTB HZ HSZ ne_of
 go_upto_region 2 with (fail)
 generalize w2.alloc (.cells #[.map (some b)] 50) = w3 at HS HB2 HM2 HN2 HTA2 HTB2 HZ2 HS2 ⊢
 generalize w2.heap.size = gs at HS2 HBL ⊢
 have ht1 := bk1 HTA2.out; have ht2 := bk1 HS2.out
 go_wp2_with fail
 refine (maps_Copy b m [] r w3 HS.out HM2.out HMB.out (by simp; omega)).mono ?_
 rintro e w4 ⟨rfl, hs4, hg4⟩
 have hr4 : r.foldl addR [] = r := ofL_eq HUP.out (fun x => Iff.rfl)
 rw [hr4] at hs4
 have HS4 := Aside0.mk hs4
 have HB4 := Aside0.mk (HB2.out.grown hg4 HB2.out.size (fun j hj => by injection hj with hj; have := HBG.out; omega))
 have HN4 := Aside0.mk (HN2.out.kept hg4 HNB.out)
 have HTB4 := Aside0.mk (blk_grown HTB2.out hg4 (by have := HBG.out; simp; omega))
 have HZ4 := Aside0.mk (blk_grown HZ2.out hg4 (by have := HBG.out; simp; omega))
 have HG4 := Aside0.mk (blk_grown HS2.out hg4 (by have := HBL.out; simp; omega))
 clear ht1 ht2 hs4 hg4 hr4 HS HB2 HM2 HN2 HTA2 HTB2 HZ2 HS2 HMB
 have ht1 := bk1 HTB4.out; have ht2 := bk1 HG4.out
 go_wp2_with fail
 refine (maps_Copy b n r s w4 HS4.out HN4.out HNB.out hlen).mono ?_
 rintro e w5 ⟨rfl, hs5, hg5⟩
 have HS5 := Aside0.mk hs5
 have HB5 := Aside0.mk (HB4.out.grown hg5 HB4.out.size (fun j hj => by injection hj with hj; have := HBG.out; omega))
 have HZ5 := Aside0.mk (blk_grown HZ4.out hg5 (by have := HBG.out; simp; omega))
 have HG5 := Aside0.mk (blk_grown HG4.out hg5 (by have := HBL.out; simp; omega))
 clear ht1 ht2 hs5 hg5 HS4 HB4 HN4 HTB4 HZ4 HG4 HNB
 have hs0 := bk1 HG5.out; have hz0 := bk1 HZ5.out
 have HBS := Aside0.mk (HB5.out.setCell (p := ⟨w.heap.size + 1 + 1, 0, none⟩) (show w.heap.size ≤ w.heap.size + 1 + 1 by omega) (.map (some b)))
 have HZ9 := Aside0.mk (blk_put HZ5.out 0 (.map (some b)) rfl)
 have HM10 := Aside0.mk (HS5.out.kept (grownBy_setCell' w5 (w.heap.size + 1 + 1) (.map (some b))) (by have := HBG.out; simp; omega))
 clear HS5 HZ5 HB5
 go_wp2
 generalize w5.setCell ⟨w.heap.size + 1 + 1, 0, none⟩ (.map (some b)) = w9 at HBS HZ9 HM10 ⊢
 refine bodyPost_ret (results_cell_row rfl _ _ (w.heap.size + 1 + 1) 50 #[.map (some b)] (0, 0) _ rfl HZ9.out Tryd.underlying50 rfl (by kernel_rfl)) rfl ?_
 exact ⟨_, rfl, by have := HBG.out; omega, HM10.out, HBS.out⟩
def set_With.T1 : Bool × List (List Nat × List Nat) := (true, [([], []), ([], []), ([1], [1]), ([2], [2]), ([0, 3, 3], [0, 3]), ([4, 4, 0, 1, 2, 3, 4], [4])])
def set_With.B1 : List Nat := [0, 0, 2, 6, 15, 31]
theorem set_With.tab1 : rtab .any (opsOf Tryd.f22 1) = set_With.T1 := by kernel_rfl
theorem set_With.bits1 : waitsOk set_With.T1.2 set_With.B1 = true := by kernel_rfl
set_option maxRecDepth 100000 in
set_option maxHeartbeats 8000000 in
theorem set_With (m : Option Nat) (r : List Nd) (x : Nd) (w : World) (h : SetO w m r) (hx : ndW x) (hlen : r.length + 1 ≤ 1000000) :
  Calls Tryd.prog 22 #[.agg #[.map m], ndV x] w fun e w' => ∃ b, e = .returned (.agg #[.map (some b)]) ∧ w.heap.size ≤ b ∧ SetR w' b (addR r x) ∧ Below w.heap.size w w' := by
 have HB2 := Aside0.mk (below_alloc (below_alloc (below_alloc (Below.refl w.heap.size w) (.cells #[.map m] 50)) (.cells #[.int .i64 x.f0, .int .i64 x.f1, .string x.f2] 24)) (.cells #[.map none] 50))
 have HM2 := Aside0.mk (((h.alloc (.cells #[.map m] 50)).alloc (.cells #[.int .i64 x.f0, .int .i64 x.f1, .string x.f2] 24)).alloc (.cells #[.map none] 50))
 have HA2 : Aside0 ((((w.alloc (.cells #[.map m] 50)).alloc (.cells #[.int .i64 x.f0, .int .i64 x.f1, .string x.f2] 24)).alloc (.cells #[.map none] 50)).heap[w.heap.size]? = some (.cells #[.map m] 50 (0, 0))) := ⟨blk_alloc (blk_alloc (blk_new _ _) _) _⟩
 have HX2 : Aside0 ((((w.alloc (.cells #[.map m] 50)).alloc (.cells #[.int .i64 x.f0, .int .i64 x.f1, .string x.f2] 24)).alloc (.cells #[.map none] 50)).heap[w.heap.size + 1]? = some (.cells #[.int .i64 x.f0, .int .i64 x.f1, .string x.f2] 24 (0, 0))) := ⟨by
  have := blk_alloc (blk_new (w.alloc (.cells #[.map m] 50)) (.cells #[.int .i64 x.f0, .int .i64 x.f1, .string x.f2] 24)) (.cells #[.map none] 50)
  rw [World.size_alloc] at this
  exact this⟩
 have HZ2 : Aside0 ((((w.alloc (.cells #[.map m] 50)).alloc (.cells #[.int .i64 x.f0, .int .i64 x.f1, .string x.f2] 24)).alloc (.cells #[.map none] 50)).heap[w.heap.size + 1 + 1]? = some (.cells #[.map none] 50 (0, 0))) := ⟨by
  have := blk_new ((w.alloc (.cells #[.map m] 50)).alloc (.cells #[.int .i64 x.f0, .int .i64 x.f1, .string x.f2] 24)) (.cells #[.map none] 50)
  rw [World.size_alloc, World.size_alloc] at this
  exact this⟩
 have HXW := Aside0.mk hx; have HLN := Aside0.mk hlen
 have HGZ : Aside0 (w.heap.size ≤ w.heap.size + 1 + 1) := ⟨by omega⟩
 clear h hx
 unfold ndV
 go_enter Tryd.func22, Tryd.ntmps22
 go_upto_region 1 with (fail)
 generalize (((w.alloc (.cells #[.map m] 50)).alloc (.cells #[.int .i64 x.f0, .int .i64 x.f1, .string x.f2] 24)).alloc (.cells #[.map none] 50)) = w2 at HB2 HM2 HA2 HX2 HZ2 ⊢
 have HB3 := Aside0.mk (below_drew1 HB2.out)
 have hd : Below w2.heap.size w2 w2.drew := below_drew (Below.refl _ _)
 have HM3 := Aside0.mk (HM2.out.below hd)
 have HA3 := Aside0.mk (blk_drew HA2.out); have HX3 := Aside0.mk (blk_drew HX2.out); have HZ3 := Aside0.mk (blk_drew HZ2.out)
 clear HB2 HM2 HA2 HX2 HZ2 hd
 generalize w.heap.size + 1 + 1 = gz at HZ3 HGZ ⊢
 generalize w.heap.size + 1 = gx at HX3 ⊢
 obtain ⟨ga, hga⟩ : ∃ ga, ga = w.heap.size := ⟨_, rfl⟩
 rw [← hga] at HA3 ⊢
 clear hga
 refine start_ (n := 6) (S := fun w' => w'.cell? ⟨ga, 0, none⟩ = some (.map m) ∧ w'.cell? ⟨gx, 0, none⟩ = some (.int .i64 x.f0) ∧ w'.cell? ⟨gx, 1, none⟩ = some (.int .i64 x.f1) ∧ w'.cell? ⟨gx, 2, none⟩ = some (.string x.f2) ∧ w'.heap[gz]? = some (.cells #[.map none] 50 (0, 0))) (ds := [5]) (tf 0 6) (by kernel_rfl) rfl rfl ⟨(bk1 HA3.out).1, (bk3 HX3.out).1, (bk3 HX3.out).2.1, (bk3 HX3.out).2.2.1, HZ3.out⟩ (fun hHeld => ?_)
 refine with_tabW set_With.tab1 set_With.bits1 (fun HT_ HW_ => ?_)
 generalize w2.drew = w3 at HB3 HM3 HA3 HX3 HZ3 hHeld ⊢
 refine take_ (i := 0) (N := some 5) (v := ?_) (a' := ?_) (tf 1 5) rfl rfl (take_ofW HT_.out HW_.out (by kernel_rfl)) (fun _ _ _ h => h) (Or.inl ⟨by rfl, ?_⟩) hHeld ?_ ?_
 rotate_left
 ·rintro w' ⟨s0, s1, s2, s3, s4⟩
  go_simp
  with_reducible rfl
 rotate_left
 ·simp only [Act.put, List.setIfInBounds_toArray, List.set_cons_zero, List.set_cons_succ, i64_w, i32_w]
  rfl
 refine take_ (i := 1) (N := some 6) (v := ?_) (a' := ?_) (tf 2 4) rfl rfl (take_ofW HT_.out HW_.out (by kernel_rfl)) (fun _ _ _ h => h) (Or.inl ⟨by rfl, ?_⟩) hHeld ?_ ?_
 rotate_left
 ·rintro w' ⟨s0, s1, s2, s3, s4⟩
  go_simp
  with_reducible rfl
 rotate_left
 ·simp only [Act.put, List.setIfInBounds_toArray, List.set_cons_zero, List.set_cons_succ, i64_w, i32_w]
  rfl
 refine one_ (i := 2) (N := some 7) (tf 3 3) rfl rfl (one_of HT_.out (by kernel_rfl)) (by decide) (fun K hK => ?_)
 refine Kd.R_lit_step k24 (w0 := w3) w3.heap.size 24 (by rfl) (N := 7) rfl (xs := [x]) (inner := [.int .i64 x.f0, .int .i64 x.f1, .string x.f2]) (ok := fun _ => True) (okp := fun _ => True) ?hr ?hp (fun _ hk => hk) trivial (Below.refl _ _) (Nat.le_refl _) (by simp) ?_
 case hr => first | (go_simp; done) | (go_simp; rfl)
 case hp => exact Reps.snoc (Reps.none _ _) (k24_mkM _ _ _ x) rfl
 intro v7 w4 ho7 hb4 _ _
 obtain ⟨A7, c7, rfl, hc7, hC7⟩ := Kd.R_reads ho7
 have HC7 := Aside0.mk hC7; have Hc7 := Aside0.mk hc7
 have HA4 := Aside0.mk (blk_below HA3.out hb4)
 have HX4 := Aside0.mk (blk_below HX3.out hb4)
 have HZ4 := Aside0.mk (blk_below HZ3.out hb4)
 have HM4 := Aside0.mk (HM3.out.below hb4)
 have HB4 := Aside0.mk (below_step HB3.out hb4)
 clear HA3 HX3 HZ3 HM3 HB3
 clear ho7 hb4 hC7 hc7
 refine hK.out _ _ ⟨(bk1 HA4.out).1, (bk3 HX4.out).1, (bk3 HX4.out).2.1, (bk3 HX4.out).2.2.1, HZ4.out⟩ (fun hHeld => ?_)
 clear hK K
 refine norm_ (a' := ?_) ?_ ?_
 rotate_left
 ·show Act.put _ (some 7) _ = _
  simp only [Act.put, List.setIfInBounds_toArray, List.set_cons_zero, List.set_cons_succ, i64_w, i32_w]
  rfl
 refine one_ (i := 3) (N := some 8) (tf 4 2) rfl rfl (one_of HT_.out (by kernel_rfl)) (by decide) (fun K hK => ?_)
 refine goes_ Tryd.func17 (by kernel_rfl) rfl #[.slice A7 [x].length c7] (by rfl) rfl rfl (by simp only [List.map_toArray, List.map_cons, List.map_nil]; rfl) ?_
 refine (node_Of A7 c7 [x] w4 HC7.out Hc7.out (fun z hz => by rw [List.mem_singleton.mp hz]; exact HXW.out) (by simp)).mono ?_
 rintro e w5 ⟨b, rfl, hb1, hs, hb5⟩
 refine ⟨_, rfl, ?_⟩
 have HO5 : Aside0 (SetR w5 b [x]) := ⟨hs⟩
 have HA5 := Aside0.mk (blk_below HA4.out hb5)
 have HX5 := Aside0.mk (blk_below HX4.out hb5)
 have HZ5 := Aside0.mk (blk_below HZ4.out hb5)
 have HM5 := Aside0.mk (HM4.out.below hb5)
 have HB5 := Aside0.mk (below_step HB4.out hb5)
 clear HA4 HX4 HZ4 HM4 HB4
 clear hb1 hs hb5 HC7 Hc7
 refine hK.out _ _ ⟨(bk1 HA5.out).1, (bk3 HX5.out).1, (bk3 HX5.out).2.1, (bk3 HX5.out).2.2.1, HZ5.out⟩ (fun hHeld => ?_)
 clear hK K
 refine norm_ (a' := ?_) ?_ ?_
 rotate_left
 ·show Act.put _ (some 8) _ = _
  simp only [Act.put, List.setIfInBounds_toArray, List.set_cons_zero, List.set_cons_succ, i64_w, i32_w]
  rfl
 refine one_ (i := 4) (N := some 9) (tf 5 1) rfl rfl (one_of HT_.out (by kernel_rfl)) (by decide) (fun K hK => ?_)
 refine goes_ Tryd.func21 (by kernel_rfl) rfl #[.agg #[.map m], .agg #[.map (some b)]] (by rfl) rfl rfl (by simp only [List.map_toArray, List.map_cons, List.map_nil]; rfl) ?_
 refine (set_Join m (some b) r [x] w5 HM5.out HO5.out (by simpa using HLN.out)).mono ?_
 rintro e w6 ⟨b6, rfl, hb1, hs, hb6⟩
 refine ⟨_, rfl, ?_⟩
 have HO6 : Aside0 (SetR w6 b6 (addR r x)) := ⟨hs⟩
 have HBG : Aside0 (w.heap.size ≤ b6) := ⟨Nat.le_trans HB5.out.size hb1⟩
 have HBW : Aside0 (w5.heap.size ≤ b6) := ⟨hb1⟩
 have HZL : Aside0 (gz < w5.heap.size) := ⟨blk_lt HZ5.out⟩
 have HA6 := Aside0.mk (blk_below HA5.out hb6)
 have HX6 := Aside0.mk (blk_below HX5.out hb6)
 have HZ6 := Aside0.mk (blk_below HZ5.out hb6)
 have HM6 := Aside0.mk (HM5.out.below hb6)
 have HB6 := Aside0.mk (below_step HB5.out hb6)
 clear HA5 HX5 HZ5 HM5 HB5
 clear hb1 hs hb6 HO5
 refine hK.out _ _ ⟨(bk1 HA6.out).1, (bk3 HX6.out).1, (bk3 HX6.out).2.1, (bk3 HX6.out).2.2.1, HZ6.out⟩ (fun hHeld => ?_)
 clear hK K
 refine norm_ (a' := ?_) ?_ ?_
 rotate_left
 ·show Act.put _ (some 9) _ = _
  simp only [Act.put, List.setIfInBounds_toArray, List.set_cons_zero, List.set_cons_succ, i64_w, i32_w]
  rfl
 refine last_ (i := 5) (N := none) (tf 6 0) rfl rfl (one_of HT_.out (by kernel_rfl)) (by decide) (fun K hK => ?_)
 obtain ⟨z0, z1⟩ := bk1 HZ6.out
 refine skip_ (w1 := ?_) (by rfl) rfl ?_ ?_
 rotate_left
 ·go_simp
  rfl
 refine hK.out _ _ ?_
 clear hK K
 refine done_ (done_of HT_.out (by kernel_rfl)) ?_
 have HBS := Aside0.mk (HB6.out.setCell (p := ⟨gz, 0, none⟩) HGZ.out (.map (some b6)))
 have HZ9 := Aside0.mk (blk_put HZ6.out 0 (.map (some b6)) rfl)
 have HM10 := Aside0.mk (HO6.out.kept (grownBy_setCell' w6 gz (.map (some b6))) (by have := HZL.out; have := HBW.out; simp; omega))
 clear HO6 HZ6 HB6
 go_wp2
 generalize w6.setCell ⟨gz, 0, none⟩ (.map (some b6)) = w9 at HBS HZ9 HM10 ⊢
 refine bodyPost_ret (results_cell_row rfl _ _ gz 50 #[.map (some b6)] (0, 0) _ rfl HZ9.out Tryd.underlying50 rfl (by kernel_rfl)) rfl ?_
 exact ⟨_, rfl, HBG.out, HM10.out, HBS.out⟩
abbrev Rd := S30
def toR (x : Nd) : Rd := ⟨x.f0, x.f1, x.f2⟩
theorem toR_inj {x y : Nd} (h : toR x = toR y) : x = y := by
 cases x; cases y; unfold toR at h; injection h with h1 h2 h3; dsimp only at h1 h2 h3; rw [h1, h2, h3]
theorem toR_ext {x y : Nd} (h0 : x.f0 = y.f0) (h1 : x.f1 = y.f1) (h2 : x.f2 = y.f2) : toR x = toR y := by unfold toR; rw [h0, h1, h2]
theorem eqRd (d : Nat) (w : World) (x0 y0 : Int) (x1 y1 : Int) (x2 y2 : ByteArray) :
  (Op.equalIn (d + 2) 30 (.agg #[.int .i64 x0, .int .i64 x1, .string x2]) (.agg #[.int .i64 y0, .int .i64 y1, .string y2])).run Tryd.prog w = .ok (x0 == y0 && (x1 == y1 && (x2.toList == y2.toList))) w := by
 refine eqA_of Tryd.underlying30 (by kernel_rfl) ?_
 refine eqf_cons (by rfl) (by go_simp; rfl) (by go_simp; rfl) (by go_simp) ?_
 refine eqf_cons (by rfl) (by go_simp; rfl) (by go_simp; rfl) (by go_simp) ?_
 exact eqf_last (by rfl) (by go_simp; rfl) (by go_simp; rfl) (by go_simp)
theorem has_in (m : Option Nat) (r : List Nd) (x : Nd) (w : World) (h : SetO w m r) (hx : x ∈ r) (hw : ndW x) :
  Calls Tryd.prog 25 #[.agg #[.map m], .agg #[.int .i64 x.f0, .int .i64 x.f1, .string x.f2]] w fun e w' => e = .returned (.bool true) ∧ Below w.heap.size w w' :=
 (set_Has m r x w h hw).mono fun e w' ⟨he, hb⟩ => ⟨by rw [he, decB_true hx], hb⟩
theorem same_t {x y : Nd} {z : Rd} (h : toR x = z) : (x.f0 == z.f0 && (x.f1 == z.f1 && (x.f2.toList == z.f2.toList))) = true := by
 subst h; simp [toR]
theorem same_f {x : Nd} {z : Rd} (h : ¬ toR x = z) : (x.f0 == z.f0 && (x.f1 == z.f1 && (x.f2.toList == z.f2.toList))) = false := by
 rw [Bool.eq_false_iff]
 intro e
 simp only [Bool.and_eq_true, beq_iff_eq] at e
 obtain ⟨e1, e2, e3⟩ := e
 apply h
 obtain ⟨z0, z1, z2⟩ := z
 unfold toR
 rw [S30.mk.injEq]
 exact ⟨e1, e2, bytes_eq e3⟩
def set_same.T7 : Bool × List (List Nat × List Nat) := (true, [([], []), ([], []), ([0, 1], [0, 1]), ([2], [2]), ([3], [3]), ([], []), ([], []), ([5, 6], [5, 6]), ([7], [7]), ([4, 8], [4, 8]), ([9, 4], [9]), ([10], [10]), ([10], [10]), ([10], [10]), ([12, 13, 10], [10, 12, 13]), ([14, 10], [10, 14]), ([11, 15, 10, 10], [10, 11, 15]), ([16, 10], [10, 16]), ([10, 17], [10, 17])])
def set_same.B7 : List Nat := [0, 0, 3, 7, 15, 0, 0, 96, 224, 511, 1023, 2047, 2047, 2047, 14335, 30719, 65535, 131071, 262143]
theorem set_same.tab7 : rtab .any (opsOf Tryd.f20 7) = set_same.T7 := by kernel_rfl
theorem set_same.bits7 : waitsOk set_same.T7.2 set_same.B7 = true := by kernel_rfl
attribute [local go_sem high] eqRd
set_option maxRecDepth 100000 in
set_option maxHeartbeats 8000000 in
theorem set_same (m : Option Nat) (r : List Nd) (A : Option Addr) (c : Nat) (ys : List Rd) (w : World) (h : SetO w m r) (hy : Kd.C k30 w A ys.length ys) (hc : ys.length ≤ c) (hlen : r.length ≤ 1000000) :
  Calls Tryd.prog 20 #[.agg #[.map m], .slice A ys.length c] w fun e w' => e = .returned (.bool (decB (r.map toR = ys))) ∧ Below w.heap.size w w' := by
 have HB1 := Aside0.mk (below_alloc (Below.refl w.heap.size w) (.cells #[.map m] 50))
 have HM1 := Aside0.mk (h.alloc (.cells #[.map m] 50))
 have HY1 := Aside0.mk (Kd.C_below hy (below_alloc (Below.refl _ _) (.cells #[.map m] 50)))
 have HT1 : Aside0 ((w.alloc (.cells #[.map m] 50)).heap[w.heap.size]? = some (.cells #[.map m] 50 (0, 0))) := ⟨blk_new _ _⟩
 clear h hy
 go_enter Tryd.func20, Tryd.ntmps20
 go_upto_region 1 with (fail)
 generalize w.alloc (.cells #[.map m] 50) = w1 at HB1 HM1 HY1 HT1 ⊢
 obtain ⟨gs, hgs⟩ : ∃ g, g = w.heap.size := ⟨_, rfl⟩
 rw [← hgs] at HT1 ⊢
 clear hgs
 have ht := bk1 HT1.out
 go_wp2_with fail
 clear ht
 refine (set_List m r w1 HM1.out hlen).mono ?_
 rintro e w2 ⟨v2, rfl, hr2, hb2⟩
 obtain ⟨A2, c2, e2⟩ := Kd.R_slice hr2
 subst e2
 have HL2 := Aside0.mk (Kd.R_reads' hr2).2.2
 have HC2 := Aside0.mk (Kd.R_reads' hr2).2.1
 have HB2 := Aside0.mk (below_step HB1.out hb2)
 have HM2 := Aside0.mk (HM1.out.below hb2)
 have HY2 := Aside0.mk (Kd.C_below HY1.out hb2)
 have HT2 := Aside0.mk (blk_below HT1.out hb2)
 clear hr2 hb2 HB1 HM1 HY1 HT1
 have HW := Aside0.mk HM2.out.wf
 by_cases hq : r.length = ys.length
 ·have hq1 : ((r.length : Int) != (ys.length : Int)) = false := by simp [hq]
  have hq2 : ((r.length : Int) == (ys.length : Int)) = true := by simp [hq]
  have HQ0 := Aside0.mk hq
  have hn1 : ys.length ≤ 1000000 := by omega
  clear hq
  have ht := bk1 HT2.out
  go_wp2_with fail
  clear ht
  refine (set_Len m r w2 HM2.out).mono ?_
  rintro e w3 ⟨rfl, hb3⟩
  have HL3 := Aside0.mk (Kd.C_below HL2.out hb3)
  have HB3 := Aside0.mk (below_step HB2.out hb3)
  have HM3 := Aside0.mk (HM2.out.below hb3)
  have HY3 := Aside0.mk (Kd.C_below HY2.out hb3)
  have HT3 := Aside0.mk (blk_below HT2.out hb3)
  clear hb3 HL2 HB2 HM2 HY2 HT2
  go_wp2_with fail
  clear hq1 hq2
  go_loopw [6] (fun v6 wr => ∃ i : Nat, v6 = .int .i64 i ∧ i ≤ ys.length ∧ Aside0 ((r.take i).map toR = ys.take i) ∧ Aside0 (Kd.C k24 wr A2 r.length r) ∧ Aside0 (Below w.heap.size w wr) ∧ Aside0 (SetO wr m r) ∧ Aside0 (Kd.C k30 wr A ys.length ys) ∧ Aside0 (wr.heap[gs]? = some (.cells #[.map m] 50 (0, 0)))) (fun v6 _ => ys.length - (intOf v6).toNat)
  case atStart => exact ⟨0, rfl, Nat.zero_le _, ⟨by simp⟩, HL3, HB3, HM3, HY3, HT3⟩
  case round =>
   clear HL3 HB3 HM3 HY3 HT3
   obtain ⟨i, rfl, hi, HQ, HL, HB, HS, HY, HT⟩ := hrel
   by_cases hlt : i < ys.length
   ·have hlr : i < r.length := by rw [HQ0.out]; exact hlt
    obtain ⟨ad4, e4, _⟩ := at_T24 HL.out (i : Int) (by omega) (by omega)
    subst e4
    obtain ⟨ad5, e5, _⟩ := at_T30 HY.out (i : Int) (by omega) (by omega)
    subst e5
    obtain ⟨x, ex⟩ : ∃ x, x = rd_T24 r (i : Int) := ⟨_, rfl⟩
    obtain ⟨y, ey⟩ : ∃ y, y = rd_T30 ys (i : Int) := ⟨_, rfl⟩
    have ex1 : r[i] = x := by rw [ex]; unfold rd_T24; rw [Int.toNat_natCast]; simp [hlr]
    have ey1 : ys[i] = y := by rw [ey]; unfold rd_T30; rw [Int.toNat_natCast]; simp [hlt]
    have HCX : Aside0 (∀ w', Below wr.heap.size wr w' → w'.cell? (ad4.add (i * 3)) = some (.int .i64 x.f0) ∧ w'.cell? ⟨(ad4.add (i * 3)).block, (ad4.add (i * 3)).off + 1, none⟩ = some (.int .i64 x.f1) ∧ w'.cell? ⟨(ad4.add (i * 3)).block, (ad4.add (i * 3)).off + 2, none⟩ = some (.string x.f2)) := ⟨fun w' hb => by
     obtain ⟨ad, e, h0, h1, h2⟩ := at_T24 (Kd.C_below HL.out hb) (i : Int) (by omega) (by omega)
     cases e
     rw [← ex] at h0 h1 h2
     exact ⟨h0, h1, h2⟩⟩
    have HCY : Aside0 (∀ w', Below wr.heap.size wr w' → w'.cell? (ad5.add (i * 3)) = some (.int .i64 y.f0) ∧ w'.cell? ⟨(ad5.add (i * 3)).block, (ad5.add (i * 3)).off + 1, none⟩ = some (.int .i64 y.f1) ∧ w'.cell? ⟨(ad5.add (i * 3)).block, (ad5.add (i * 3)).off + 2, none⟩ = some (.string y.f2)) := ⟨fun w' hb => by
     obtain ⟨ad, e, h0, h1, h2⟩ := at_T30 (Kd.C_below HY.out hb) (i : Int) (by omega) (by omega)
     cases e
     rw [← ey] at h0 h1 h2
     exact ⟨h0, h1, h2⟩⟩
    have HXI : Aside0 (x ∈ r) := ⟨by rw [← ex1]; exact List.getElem_mem hlr⟩
    have HXW := Aside0.mk (HW.out x HXI.out)
    have HE1 := Aside0.mk ex1; have HE2 := Aside0.mk ey1
    clear ex ey ex1 ey1
    by_cases he : toR x = y
    ·have hq1 := same_t (y := x) he
     have HN : Aside0 ((r.take (i + 1)).map toR = ys.take (i + 1)) := ⟨by
      rw [List.take_succ_eq_append_getElem hlr, List.take_succ_eq_append_getElem hlt, List.map_append, HQ.out, HE1.out, HE2.out]
      simp [he]⟩
     clear he
     go_upto_region 7 with (fail)
     refine start_ (n := 19) (S := fun w' => Below wr.heap.size wr w') (ds := []) (tf 0 19) (by kernel_rfl) rfl rfl ((below_drew1 (Below.refl _ _))) (fun hHeld => ?_)
     refine with_tabW set_same.tab7 set_same.bits7 (fun HT_ HW_ => ?_)
     refine pure_ (i := 0) (N := some 27) (v := ?_) (a' := ?_) (tf 1 18) rfl rfl (any_of HT_.out (by kernel_rfl)) (fun _ _ _ h => h) (Or.inl ⟨by rfl, ?_⟩) ?_ ?_
     rotate_left
     ·intro w'
      go_simp
      with_reducible rfl
     rotate_left
     ·simp only [Act.put, List.setIfInBounds_toArray, List.set_cons_zero, List.set_cons_succ, i64_w, i32_w]
      rfl
     refine pure_ (i := 1) (N := some 28) (v := ?_) (a' := ?_) (tf 2 17) rfl rfl (any_of HT_.out (by kernel_rfl)) (fun _ _ _ h => h) (Or.inl ⟨by rfl, ?_⟩) ?_ ?_
     rotate_left
     ·intro w'
      go_simp
      with_reducible rfl
     rotate_left
     ·simp only [Act.put, List.setIfInBounds_toArray, List.set_cons_zero, List.set_cons_succ, i64_w, i32_w]
      rfl
     refine pure_ (i := 2) (N := some 29) (v := ?_) (a' := ?_) (tf 3 16) rfl rfl (any_of HT_.out (by kernel_rfl)) (fun _ _ _ h => h) (Or.inl ⟨by rfl, ?_⟩) ?_ ?_
     rotate_left
     ·intro w'
      go_simp
      with_reducible rfl
     rotate_left
     ·simp only [Act.put, List.setIfInBounds_toArray, List.set_cons_zero, List.set_cons_succ, i64_w, i32_w]
      rfl
     refine pure_ (i := 5) (N := some 32) (v := ?_) (a' := ?_) #[true, true, true, false, false, true, false, false, false, false, false, false, false, false, false, false, false, false, false] rfl rfl (any_of HT_.out (by kernel_rfl)) (fun _ _ _ h => h) (Or.inl ⟨by rfl, ?_⟩) ?_ ?_
     rotate_left
     ·intro w'
      go_simp
      with_reducible rfl
     rotate_left
     ·simp only [Act.put, List.setIfInBounds_toArray, List.set_cons_zero, List.set_cons_succ, i64_w, i32_w]
      rfl
     refine pure_ (i := 6) (N := some 33) (v := ?_) (a' := ?_) #[true, true, true, false, false, true, true, false, false, false, false, false, false, false, false, false, false, false, false] rfl rfl (any_of HT_.out (by kernel_rfl)) (fun _ _ _ h => h) (Or.inl ⟨by rfl, ?_⟩) ?_ ?_
     rotate_left
     ·intro w'
      go_simp
      with_reducible rfl
     rotate_left
     ·simp only [Act.put, List.setIfInBounds_toArray, List.set_cons_zero, List.set_cons_succ, i64_w, i32_w]
      rfl
     refine pure_ (i := 7) (N := some 34) (v := ?_) (a' := ?_) #[true, true, true, false, false, true, true, true, false, false, false, false, false, false, false, false, false, false, false] rfl rfl (any_of HT_.out (by kernel_rfl)) (fun _ _ _ h => h) (Or.inl ⟨by rfl, ?_⟩) ?_ ?_
     rotate_left
     ·intro w'
      go_simp
      with_reducible rfl
     rotate_left
     ·simp only [Act.put, List.setIfInBounds_toArray, List.set_cons_zero, List.set_cons_succ, i64_w, i32_w]
      rfl
     refine take_ (i := 3) (N := some 30) (v := ?_) (a' := ?_) #[true, true, true, true, false, true, true, true, false, false, false, false, false, false, false, false, false, false, false] rfl rfl (take_ofW HT_.out HW_.out (by kernel_rfl)) (fun _ _ _ h => h) (Or.inl ⟨by rfl, ?_⟩) hHeld ?_ ?_
     rotate_left
     ·intro w' s0
      obtain ⟨x0, x1, x2⟩ := HCX.out w' s0
      go_simp
      with_reducible rfl
     rotate_left
     ·simp only [Act.put, List.setIfInBounds_toArray, List.set_cons_zero, List.set_cons_succ, i64_w, i32_w]
      rfl
     refine take_ (i := 8) (N := some 35) (v := ?_) (a' := ?_) #[true, true, true, true, false, true, true, true, true, false, false, false, false, false, false, false, false, false, false] rfl rfl (take_ofW HT_.out HW_.out (by kernel_rfl)) (fun _ _ _ h => h) (Or.inl ⟨by rfl, ?_⟩) hHeld ?_ ?_
     rotate_left
     ·intro w' s0
      obtain ⟨x0, x1, x2⟩ := HCY.out w' s0
      go_simp
      with_reducible rfl
     rotate_left
     ·simp only [Act.put, List.setIfInBounds_toArray, List.set_cons_zero, List.set_cons_succ, i64_w, i32_w]
      rfl
     refine one_ (i := 4) (N := some 31) (tf 9 10) rfl rfl (one_of HT_.out (by kernel_rfl)) (by decide) (fun K hK => ?_)
     refine goes_ Tryd.func9 (by kernel_rfl) rfl #[.agg #[.int .i64 x.f0, .int .i64 x.f1, .string x.f2]] (by rfl) rfl rfl (by simp only [List.map_toArray, List.map_cons, List.map_nil]; rfl) ?_
     refine (truantlaw18_form.calls _ _ _ _ _ _ _ rfl).mono ?_
     rintro e w904 ⟨rfl, hb⟩
     refine ⟨_, rfl, ?_⟩
     refine hK.out _ _ (below_step hHeld hb) (fun hHeld => ?_)
     clear hK K
     refine norm_ (a' := ?_) ?_ ?_
     rotate_left
     ·show Act.put _ (some 31) _ = _
      simp only [Act.put, List.setIfInBounds_toArray, List.set_cons_zero, List.set_cons_succ, i64_w, i32_w]
      rfl
     refine pure_ (i := 9) (N := some 36) (v := ?_) (a' := ?_) (tf 10 9) rfl rfl (any_of HT_.out (by kernel_rfl)) (fun _ _ _ h => h) (Or.inl ⟨by rfl, ?_⟩) ?_ ?_
     rotate_left
     ·intro w'
      go_simp
      with_reducible rfl
     rotate_left
     ·simp only [Act.put, List.setIfInBounds_toArray, List.set_cons_zero, List.set_cons_succ, i64_w, i32_w]
      rfl
     refine pure_ (i := 10) (N := some 37) (v := ?_) (a' := ?_) (tf 11 8) rfl rfl (any_of HT_.out (by kernel_rfl)) (fun _ _ _ h => h) (Or.inl ⟨by rfl, ?_⟩) ?_ ?_
     rotate_left
     ·intro w'
      go_simp
      with_reducible rfl
     rotate_left
     ·simp only [Act.put, List.setIfInBounds_toArray, List.set_cons_zero, List.set_cons_succ, i64_w, i32_w]
      rfl
     refine pure_ (i := 12) (N := some 39) (v := ?_) (a' := ?_) #[true, true, true, true, true, true, true, true, true, true, true, false, true, false, false, false, false, false, false] rfl rfl (any_of HT_.out (by kernel_rfl)) (fun _ _ _ h => h) (Or.inl ⟨by rfl, ?_⟩) ?_ ?_
     rotate_left
     ·intro w'
      go_simp
      with_reducible rfl
     rotate_left
     ·simp only [Act.put, List.setIfInBounds_toArray, List.set_cons_zero, List.set_cons_succ, i64_w, i32_w]
      rfl
     refine pure_ (i := 13) (N := some 40) (v := ?_) (a' := ?_) #[true, true, true, true, true, true, true, true, true, true, true, false, true, true, false, false, false, false, false] rfl rfl (any_of HT_.out (by kernel_rfl)) (fun _ _ _ h => h) (Or.inl ⟨by rfl, ?_⟩) ?_ ?_
     rotate_left
     ·intro w'
      go_simp
      with_reducible rfl
     rotate_left
     ·simp only [Act.put, List.setIfInBounds_toArray, List.set_cons_zero, List.set_cons_succ, i64_w, i32_w]
      rfl
     refine pure_ (i := 14) (N := some 41) (v := ?_) (a' := ?_) #[true, true, true, true, true, true, true, true, true, true, true, false, true, true, true, false, false, false, false] rfl rfl (any_of HT_.out (by kernel_rfl)) (fun _ _ _ h => h) (Or.inl ⟨by rfl, ?_⟩) ?_ ?_
     rotate_left
     ·intro w'
      go_simp
      with_reducible rfl
     rotate_left
     ·simp only [Act.put, List.setIfInBounds_toArray, List.set_cons_zero, List.set_cons_succ, i64_w, i32_w]
      rfl
     refine take_ (i := 11) (N := some 38) (v := ?_) (a' := ?_) (tf 15 4) rfl rfl (take_ofW HT_.out HW_.out (by kernel_rfl)) (fun _ _ _ h => h) (Or.inl ⟨by rfl, ?_⟩) hHeld ?_ ?_
     rotate_left
     ·intro w' s0
      obtain ⟨x0, _⟩ := bk1 (blk_below HT.out s0)
      go_simp
      with_reducible rfl
     rotate_left
     ·simp only [Act.put, List.setIfInBounds_toArray, List.set_cons_zero, List.set_cons_succ, i64_w, i32_w]
      rfl
     refine take_ (i := 15) (N := some 42) (v := ?_) (a' := ?_) (tf 16 3) rfl rfl (take_ofW HT_.out HW_.out (by kernel_rfl)) (fun _ _ _ h => h) (Or.inl ⟨by rfl, ?_⟩) hHeld ?_ ?_
     rotate_left
     ·intro w' s0
      obtain ⟨x0, x1, x2⟩ := HCX.out w' s0
      go_simp
      with_reducible rfl
     rotate_left
     ·simp only [Act.put, List.setIfInBounds_toArray, List.set_cons_zero, List.set_cons_succ, i64_w, i32_w]
      rfl
     refine one_ (i := 16) (N := some 43) (tf 17 2) rfl rfl (one_of HT_.out (by kernel_rfl)) (by decide) (fun K hK => ?_)
     refine goes_ Tryd.func25 (by kernel_rfl) rfl #[.agg #[.map m], .agg #[.int .i64 x.f0, .int .i64 x.f1, .string x.f2]] (by rfl) rfl rfl (by simp only [List.map_toArray, List.map_cons, List.map_nil]; rfl) ?_
     refine (has_in m r x _ (HS.out.below hHeld) HXI.out HXW.out).mono ?_
     rintro e w916 ⟨rfl, hb⟩
     refine ⟨_, rfl, ?_⟩
     refine hK.out _ _ (below_step hHeld hb) (fun hHeld => ?_)
     clear hK K
     refine norm_ (a' := ?_) ?_ ?_
     rotate_left
     ·show Act.put _ (some 43) _ = _
      simp only [Act.put, List.setIfInBounds_toArray, List.set_cons_zero, List.set_cons_succ, i64_w, i32_w]
      rfl
     refine pure_ (i := 17) (N := some 44) (v := ?_) (a' := ?_) (tf 18 1) rfl rfl (any_of HT_.out (by kernel_rfl)) (fun _ _ _ h => h) (Or.inl ⟨by rfl, ?_⟩) ?_ ?_
     rotate_left
     ·intro w'
      go_simp
      with_reducible rfl
     rotate_left
     ·simp only [Act.put, List.setIfInBounds_toArray, List.set_cons_zero, List.set_cons_succ, i64_w, i32_w]
      rfl
     refine pure_ (i := 18) (N := some 45) (v := ?_) (a' := ?_) (tf 19 0) rfl rfl (any_of HT_.out (by kernel_rfl)) (fun _ _ _ h => h) (Or.inl ⟨by rfl, ?_⟩) ?_ ?_
     rotate_left
     ·intro w'
      go_simp
      with_reducible rfl
     rotate_left
     ·simp only [Act.put, List.setIfInBounds_toArray, List.set_cons_zero, List.set_cons_succ, i64_w, i32_w]
      rfl
     refine done_ (done_of HT_.out (by kernel_rfl)) ?_
     have HL2 := Aside0.mk (Kd.C_below HL.out hHeld); have HB2 := Aside0.mk (below_step HB.out hHeld); have HS2 := Aside0.mk (HS.out.below hHeld); have HY2 := Aside0.mk (Kd.C_below HY.out hHeld); have HT2 := Aside0.mk (blk_below HT.out hHeld)
     clear hHeld HL HB HS HY HT HCX HCY
     go_wp2
     go_roundw
     case rel => exact ⟨i + 1, by simp, by omega, HN, HL2, HB2, HS2, HY2, HT2⟩
     case measure => show ys.length - ((i : Int) + 1).toNat < ys.length - (i : Int).toNat; omega
    ·have hq1 := same_f he
     have hd : decB (r.map toR = ys) = false := decB_false (fun e => he (by
      rw [← HE1.out, ← HE2.out]
      subst e
      simp))
     clear he
     go_upto_region 7 with (fail)
     refine start_ (n := 19) (S := fun w' => Below wr.heap.size wr w') (ds := []) (tf 0 19) (by kernel_rfl) rfl rfl ((below_drew1 (Below.refl _ _))) (fun hHeld => ?_)
     refine with_tabW set_same.tab7 set_same.bits7 (fun HT_ HW_ => ?_)
     refine pure_ (i := 0) (N := some 27) (v := ?_) (a' := ?_) (tf 1 18) rfl rfl (any_of HT_.out (by kernel_rfl)) (fun _ _ _ h => h) (Or.inl ⟨by rfl, ?_⟩) ?_ ?_
     rotate_left
     ·intro w'
      go_simp
      with_reducible rfl
     rotate_left
     ·simp only [Act.put, List.setIfInBounds_toArray, List.set_cons_zero, List.set_cons_succ, i64_w, i32_w]
      rfl
     refine pure_ (i := 1) (N := some 28) (v := ?_) (a' := ?_) (tf 2 17) rfl rfl (any_of HT_.out (by kernel_rfl)) (fun _ _ _ h => h) (Or.inl ⟨by rfl, ?_⟩) ?_ ?_
     rotate_left
     ·intro w'
      go_simp
      with_reducible rfl
     rotate_left
     ·simp only [Act.put, List.setIfInBounds_toArray, List.set_cons_zero, List.set_cons_succ, i64_w, i32_w]
      rfl
     refine pure_ (i := 2) (N := some 29) (v := ?_) (a' := ?_) (tf 3 16) rfl rfl (any_of HT_.out (by kernel_rfl)) (fun _ _ _ h => h) (Or.inl ⟨by rfl, ?_⟩) ?_ ?_
     rotate_left
     ·intro w'
      go_simp
      with_reducible rfl
     rotate_left
     ·simp only [Act.put, List.setIfInBounds_toArray, List.set_cons_zero, List.set_cons_succ, i64_w, i32_w]
      rfl
     refine pure_ (i := 5) (N := some 32) (v := ?_) (a' := ?_) #[true, true, true, false, false, true, false, false, false, false, false, false, false, false, false, false, false, false, false] rfl rfl (any_of HT_.out (by kernel_rfl)) (fun _ _ _ h => h) (Or.inl ⟨by rfl, ?_⟩) ?_ ?_
     rotate_left
     ·intro w'
      go_simp
      with_reducible rfl
     rotate_left
     ·simp only [Act.put, List.setIfInBounds_toArray, List.set_cons_zero, List.set_cons_succ, i64_w, i32_w]
      rfl
     refine pure_ (i := 6) (N := some 33) (v := ?_) (a' := ?_) #[true, true, true, false, false, true, true, false, false, false, false, false, false, false, false, false, false, false, false] rfl rfl (any_of HT_.out (by kernel_rfl)) (fun _ _ _ h => h) (Or.inl ⟨by rfl, ?_⟩) ?_ ?_
     rotate_left
     ·intro w'
      go_simp
      with_reducible rfl
     rotate_left
     ·simp only [Act.put, List.setIfInBounds_toArray, List.set_cons_zero, List.set_cons_succ, i64_w, i32_w]
      rfl
     refine pure_ (i := 7) (N := some 34) (v := ?_) (a' := ?_) #[true, true, true, false, false, true, true, true, false, false, false, false, false, false, false, false, false, false, false] rfl rfl (any_of HT_.out (by kernel_rfl)) (fun _ _ _ h => h) (Or.inl ⟨by rfl, ?_⟩) ?_ ?_
     rotate_left
     ·intro w'
      go_simp
      with_reducible rfl
     rotate_left
     ·simp only [Act.put, List.setIfInBounds_toArray, List.set_cons_zero, List.set_cons_succ, i64_w, i32_w]
      rfl
     refine take_ (i := 3) (N := some 30) (v := ?_) (a' := ?_) #[true, true, true, true, false, true, true, true, false, false, false, false, false, false, false, false, false, false, false] rfl rfl (take_ofW HT_.out HW_.out (by kernel_rfl)) (fun _ _ _ h => h) (Or.inl ⟨by rfl, ?_⟩) hHeld ?_ ?_
     rotate_left
     ·intro w' s0
      obtain ⟨x0, x1, x2⟩ := HCX.out w' s0
      go_simp
      with_reducible rfl
     rotate_left
     ·simp only [Act.put, List.setIfInBounds_toArray, List.set_cons_zero, List.set_cons_succ, i64_w, i32_w]
      rfl
     refine take_ (i := 8) (N := some 35) (v := ?_) (a' := ?_) #[true, true, true, true, false, true, true, true, true, false, false, false, false, false, false, false, false, false, false] rfl rfl (take_ofW HT_.out HW_.out (by kernel_rfl)) (fun _ _ _ h => h) (Or.inl ⟨by rfl, ?_⟩) hHeld ?_ ?_
     rotate_left
     ·intro w' s0
      obtain ⟨x0, x1, x2⟩ := HCY.out w' s0
      go_simp
      with_reducible rfl
     rotate_left
     ·simp only [Act.put, List.setIfInBounds_toArray, List.set_cons_zero, List.set_cons_succ, i64_w, i32_w]
      rfl
     refine one_ (i := 4) (N := some 31) (tf 9 10) rfl rfl (one_of HT_.out (by kernel_rfl)) (by decide) (fun K hK => ?_)
     refine goes_ Tryd.func9 (by kernel_rfl) rfl #[.agg #[.int .i64 x.f0, .int .i64 x.f1, .string x.f2]] (by rfl) rfl rfl (by simp only [List.map_toArray, List.map_cons, List.map_nil]; rfl) ?_
     refine (truantlaw18_form.calls _ _ _ _ _ _ _ rfl).mono ?_
     rintro e w904 ⟨rfl, hb⟩
     refine ⟨_, rfl, ?_⟩
     refine hK.out _ _ (below_step hHeld hb) (fun hHeld => ?_)
     clear hK K
     refine norm_ (a' := ?_) ?_ ?_
     rotate_left
     ·show Act.put _ (some 31) _ = _
      simp only [Act.put, List.setIfInBounds_toArray, List.set_cons_zero, List.set_cons_succ, i64_w, i32_w]
      rfl
     refine pure_ (i := 9) (N := some 36) (v := ?_) (a' := ?_) (tf 10 9) rfl rfl (any_of HT_.out (by kernel_rfl)) (fun _ _ _ h => h) (Or.inl ⟨by rfl, ?_⟩) ?_ ?_
     rotate_left
     ·intro w'
      go_simp
      with_reducible rfl
     rotate_left
     ·simp only [Act.put, List.setIfInBounds_toArray, List.set_cons_zero, List.set_cons_succ, i64_w, i32_w]
      rfl
     refine pure_ (i := 10) (N := some 37) (v := ?_) (a' := ?_) (tf 11 8) rfl rfl (any_of HT_.out (by kernel_rfl)) (fun _ _ _ h => h) (Or.inl ⟨by rfl, ?_⟩) ?_ ?_
     rotate_left
     ·intro w'
      go_simp
      with_reducible rfl
     rotate_left
     ·simp only [Act.put, List.setIfInBounds_toArray, List.set_cons_zero, List.set_cons_succ, i64_w, i32_w]
      rfl
     refine pure_ (i := 11) (N := some 38) (v := undef) (a' := ?_) (tf 12 7) rfl rfl (any_of HT_.out (by kernel_rfl)) (fun _ _ _ h => h) (Or.inr ⟨by rfl, rfl⟩) ?_ ?_
     rotate_left
     ·simp only [Act.put, List.setIfInBounds_toArray, List.set_cons_zero, List.set_cons_succ, i64_w, i32_w]
      rfl
     refine pure_ (i := 12) (N := some 39) (v := undef) (a' := ?_) (tf 13 6) rfl rfl (any_of HT_.out (by kernel_rfl)) (fun _ _ _ h => h) (Or.inr ⟨by rfl, rfl⟩) ?_ ?_
     rotate_left
     ·simp only [Act.put, List.setIfInBounds_toArray, List.set_cons_zero, List.set_cons_succ, i64_w, i32_w]
      rfl
     refine pure_ (i := 13) (N := some 40) (v := undef) (a' := ?_) (tf 14 5) rfl rfl (any_of HT_.out (by kernel_rfl)) (fun _ _ _ h => h) (Or.inr ⟨by rfl, rfl⟩) ?_ ?_
     rotate_left
     ·simp only [Act.put, List.setIfInBounds_toArray, List.set_cons_zero, List.set_cons_succ, i64_w, i32_w]
      rfl
     refine pure_ (i := 14) (N := some 41) (v := undef) (a' := ?_) (tf 15 4) rfl rfl (any_of HT_.out (by kernel_rfl)) (fun _ _ _ h => h) (Or.inr ⟨by rfl, rfl⟩) ?_ ?_
     rotate_left
     ·simp only [Act.put, List.setIfInBounds_toArray, List.set_cons_zero, List.set_cons_succ, i64_w, i32_w]
      rfl
     refine pure_ (i := 15) (N := some 42) (v := undef) (a' := ?_) (tf 16 3) rfl rfl (any_of HT_.out (by kernel_rfl)) (fun _ _ _ h => h) (Or.inr ⟨by rfl, rfl⟩) ?_ ?_
     rotate_left
     ·simp only [Act.put, List.setIfInBounds_toArray, List.set_cons_zero, List.set_cons_succ, i64_w, i32_w]
      rfl
     refine pure_ (i := 16) (N := some 43) (v := undef) (a' := ?_) (tf 17 2) rfl rfl (any_of HT_.out (by kernel_rfl)) (fun _ _ _ h => h) (Or.inr ⟨by rfl, rfl⟩) ?_ ?_
     rotate_left
     ·simp only [Act.put, List.setIfInBounds_toArray, List.set_cons_zero, List.set_cons_succ, i64_w, i32_w]
      rfl
     refine pure_ (i := 17) (N := some 44) (v := undef) (a' := ?_) (tf 18 1) rfl rfl (any_of HT_.out (by kernel_rfl)) (fun _ _ _ h => h) (Or.inr ⟨by rfl, rfl⟩) ?_ ?_
     rotate_left
     ·simp only [Act.put, List.setIfInBounds_toArray, List.set_cons_zero, List.set_cons_succ, i64_w, i32_w]
      rfl
     refine pure_ (i := 18) (N := some 45) (v := ?_) (a' := ?_) (tf 19 0) rfl rfl (any_of HT_.out (by kernel_rfl)) (fun _ _ _ h => h) (Or.inl ⟨by rfl, ?_⟩) ?_ ?_
     rotate_left
     ·intro w'
      go_simp
      with_reducible rfl
     rotate_left
     ·simp only [Act.put, List.setIfInBounds_toArray, List.set_cons_zero, List.set_cons_succ, i64_w, i32_w]
      rfl
     refine done_ (done_of HT_.out (by kernel_rfl)) ?_
     go_wp2
     go_ret
     exact ⟨by rw [hd]; rfl, below_step HB.out hHeld⟩
   ·have hd : decB (r.map toR = ys) = true := decB_true (by
     have h1 := HQ.out
     rw [List.take_of_length_le (by rw [HQ0.out]; omega), List.take_of_length_le (by omega)] at h1
     exact h1)
    go_wp2
    go_ret
    exact ⟨by rw [hd]; rfl, HB.out⟩
 ·have hq1 : ((r.length : Int) != (ys.length : Int)) = true := by simp; omega
  have hq2 : ((r.length : Int) == (ys.length : Int)) = false := by simp; omega
  have hd : decB (r.map toR = ys) = false := decB_false (fun e => hq (by rw [← e, List.length_map]))
  go_wp2
  go_ret
  exact ⟨by rw [hd]; rfl, HB2.out⟩
theorem lessR_f (a b : Nd) : truantref18_Less.f a.f0 a.f1 a.f2 b.f0 b.f1 b.f2 = some (ltN a b) := by
 unfold truantref18_Less.f ltN
 by_cases h0 : a.f0 = b.f0
 ·rw [if_pos h0, if_pos h0]
  by_cases h1 : a.f1 = b.f1
  ·rw [if_pos h1, if_pos h1]
  ·rw [if_neg h1, if_neg h1]
 ·rw [if_neg h0, if_neg h0]
theorem rdR (pre suf : List Nd) (y : Nd) : rd_T30 ((pre ++ y :: suf).map toR) (pre.length : Int) = toR y := by
 unfold rd_T30; rw [Int.toNat_natCast]; simp
theorem has_loop (x : Nd) (r : List Nd) (hl : r.length ≤ 100000) : ∀ (suf pre : List Nd), r = pre ++ suf → x ∉ pre → Ev (fun k => truantref18_Has.l0 k (r.map toR) (pre.length : Int) x.f0 x.f1 x.f2) (decB (x ∈ r)) := by
 intro suf
 induction suf with
 | nil =>
  intro pre e hn
  rw [List.append_nil] at e
  subst e
  rw [decB_false hn]
  exact Ev.step (fun k => rfl) (Ev.neg (by rw [List.length_map]; omega) (Ev.now _))
 | cons y s ih =>
  intro pre e hn
  have hlen : r.length = pre.length + (s.length + 1) := by rw [e]; simp
  have hr : rd_T30 (r.map toR) (pre.length : Int) = toR y := by rw [e]; exact rdR pre s y
  refine Ev.step (fun k => rfl) (Ev.pos (by rw [List.length_map]; omega) (Ev.pos (by omega) ?_))
  rw [hr]
  by_cases h : toR x = toR y
  ·have hxy := toR_inj h
   rw [decB_true (by rw [e, hxy]; simp)]
   refine Ev.pos ?_ (Ev.now _)
   rw [hxy]; simp [toR]
  ·refine Ev.neg (fun e2 => h ?_) ?_
   ·simp only [Bool.and_eq_true, beq_iff_eq] at e2
    obtain ⟨e1, e3, e4⟩ := e2
    exact (toR_ext (x := y) e1 e3 (bytes_eq e4)).symm
   ·rw [wrap_succ (by omega) (by omega)]
    have := ih (pre ++ [y]) (by rw [e]; simp) (fun hm => by
     rcases List.mem_append.mp hm with hm | hm
     ·exact hn hm
     ·exact h (by rw [List.mem_singleton.mp hm]))
    rw [List.length_append, List.length_singleton] at this
    exact this
theorem has_ev (x : Nd) (r : List Nd) (hl : r.length ≤ 100000) : Ev (fun k => truantref18_Has.f k (r.map toR) x.f0 x.f1 x.f2) (decB (x ∈ r)) :=
 has_loop x r hl r [] rfl (by simp)
theorem add_done (x : Nd) (r : List Nd) (hl : r.length ≤ 100000) : ∀ (suf pre : List Nd) (acc : List Rd), r = pre ++ suf → acc.length ≤ pre.length + 1 → Ev (fun k => truantref18_Add.l0 k (r.map toR) acc true (pre.length : Int) x.f0 x.f1 x.f2) (acc ++ suf.map toR) := by
 intro suf
 induction suf with
 | nil =>
  intro pre acc e ha
  rw [List.append_nil] at e
  subst e
  exact Ev.eq (Ev.step (fun k => rfl) (Ev.neg (by rw [List.length_map]; omega) (Ev.pos rfl (Ev.now _)))) (by simp)
 | cons y s ih =>
  intro pre acc e ha
  have hlen : r.length = pre.length + (s.length + 1) := by rw [e]; simp
  have hr : rd_T30 (r.map toR) (pre.length : Int) = toR y := by rw [e]; exact rdR pre s y
  refine Ev.step (fun k => rfl) (Ev.pos (by rw [List.length_map]; omega) (Ev.pos rfl (Ev.pos (by omega) (Ev.pos (by omega) ?_))))
  rw [hr, wrap_succ (by omega) (by omega)]
  have := ih (pre ++ [y]) (acc ++ [toR y]) (by rw [e]; simp) (by simp; omega)
  rw [List.length_append, List.length_singleton] at this
  exact Ev.eq this (by simp)
theorem add_loop (x : Nd) (r : List Nd) (hl : r.length ≤ 100000) : ∀ (suf pre : List Nd), r = pre ++ suf → x ∉ suf → Ev (fun k => truantref18_Add.l0 k (r.map toR) (pre.map toR) false (pre.length : Int) x.f0 x.f1 x.f2) ((pre ++ addR suf x).map toR) := by
 intro suf
 induction suf with
 | nil =>
  intro pre e hn
  rw [List.append_nil] at e
  subst e
  exact Ev.eq (Ev.step (fun k => rfl) (Ev.neg (by rw [List.length_map]; omega) (Ev.neg (by decide) (Ev.pos (by rw [List.length_map]; omega) (Ev.now _))))) (by simp [addR, toR])
 | cons y s ih =>
  intro pre e hn
  have hlen : r.length = pre.length + (s.length + 1) := by rw [e]; simp
  have hr : rd_T30 (r.map toR) (pre.length : Int) = toR y := by rw [e]; exact rdR pre s y
  have hne : ¬ eqN y x = true := fun h => hn (by rw [eqN_iff.mp h]; simp)
  refine Ev.step (fun k => rfl) (Ev.pos (by rw [List.length_map]; omega) (Ev.neg (by decide) (Ev.pos (by omega) ?_)))
  rw [hr, wrap_succ (by omega) (by omega)]
  refine Ev.one (lessR_f x y) ?_
  unfold addR
  rw [if_neg hne]
  by_cases h : ltN x y = true
  ·rw [if_pos h]
   refine Ev.pos h (Ev.pos (by rw [List.length_map]; omega) (Ev.one rfl (Ev.pos (by simp; omega) ?_)))
   have := add_done x r hl s (pre ++ [y]) ((pre.map toR ++ [toR x]) ++ [toR y]) (by rw [e]; simp) (by simp)
   rw [List.length_append, List.length_singleton] at this
   exact Ev.eq this (by simp)
  ·rw [if_neg h]
   refine Ev.neg h (Ev.pos (by rw [List.length_map]; omega) ?_)
   have := ih (pre ++ [y]) (by rw [e]; simp) (fun hm => hn (List.mem_cons_of_mem _ hm))
   rw [List.length_append, List.length_singleton, List.map_append] at this
   exact Ev.eq this (by simp)
theorem add_ev (x : Nd) (r : List Nd) (hu : Up r) (hl : r.length ≤ 100000) : Ev (fun k => truantref18_Add.f k (r.map toR) x.f0 x.f1 x.f2) ((addR r x).map toR) := by
 refine Ev.bind (has_ev x r hl) ?_
 by_cases h : x ∈ r
 ·rw [decB_true h, addR_has hu (fun a b => ltN_asymm) h]
  exact Ev.pos rfl (Ev.now _)
 ·rw [decB_false h]
  exact Ev.neg (by decide) (Ev.eq (add_loop x r hl r [] rfl h) (by simp))
theorem row_loop (l : List Nd) (hl : l.length ≤ 10000) : ∀ (suf pre : List Nd), l = pre ++ suf → Ev (fun k => truantlaw18_row.l0 k l ((ofL pre).map toR) (pre.length : Int)) ((ofL l).map toR) := by
 intro suf
 induction suf with
 | nil =>
  intro pre e
  rw [List.append_nil] at e
  subst e
  exact Ev.step (fun k => rfl) (Ev.neg (by omega) (Ev.now _))
 | cons y s ih =>
  intro pre e
  have hlen : l.length = pre.length + (s.length + 1) := by rw [e]; simp
  have hr : rd_T24 l (pre.length : Int) = y := by unfold rd_T24; rw [Int.toNat_natCast, e]; simp
  have hle := ofL_le pre
  refine Ev.step (fun k => rfl) (Ev.pos (by omega) (Ev.pos (by omega) ?_))
  rw [hr, wrap_succ (by omega) (by omega)]
  refine Ev.one (show truantlaw18_form.f y.f0 y.f1 y.f2 = some (y.f0, y.f1, y.f2) from rfl) (Ev.bind (add_ev y (ofL pre) (ofL_up pre) (by omega)) ?_)
  have := ih (pre ++ [y]) (by rw [e]; simp)
  rw [List.length_append, List.length_singleton, ofL_snoc] at this
  exact this
theorem row_ev (l : List Nd) (hl : l.length ≤ 10000) : Ev (fun k => truantlaw18_row.f k l) ((ofL l).map toR) := row_loop l hl l [] rfl
theorem infoRd : (Tryd.prog.info? 30).map (fun i => (i.zero, i.size, i.bytes)) = some (some (.agg #[.int .i64 0, .int .i64 0, .string ⟨#[]⟩]), 3, 32) := by kernel_rfl
def stA (x : Nd) (s : List Nd × Bool) (y : Nd) : List Nd × Bool := if s.2 = true then (s.1 ++ [y], true) else if ltN x y = true then (s.1 ++ [x] ++ [y], true) else (s.1 ++ [y], false)
def accA (x : Nd) (l : List Nd) : List Nd × Bool := l.foldl (stA x) ([], false)
theorem accA_snoc (x : Nd) (l : List Nd) (y : Nd) : accA x (l ++ [y]) = stA x (accA x l) y := by unfold accA; rw [List.foldl_append]; rfl
theorem accA_len (x : Nd) : ∀ (l : List Nd) (s : List Nd × Bool), (l.foldl (stA x) s).1.length ≤ s.1.length + l.length + (if s.2 = true then 0 else 1)
 | [], s => by simp
 | y :: l, s => by
  rw [List.foldl_cons]
  have := accA_len x l (stA x s y)
  unfold stA at this ⊢
  by_cases h : s.2 = true
  ·rw [if_pos h] at this ⊢; simp at this ⊢; rw [if_pos h]; omega
  ·rw [if_neg h] at this ⊢
   by_cases h2 : ltN x y = true
   ·rw [if_pos h2] at this ⊢; simp at this ⊢; rw [if_neg h]; omega
   ·rw [if_neg h2] at this ⊢; simp at this ⊢; rw [if_neg h]; omega
theorem accA_le (x : Nd) (l : List Nd) : (accA x l).1.length ≤ l.length + 1 := by have := accA_len x l ([], false); simpa [accA] using this
theorem foldA_done (x : Nd) : ∀ (l acc : List Nd), l.foldl (stA x) (acc, true) = (acc ++ l, true)
 | [], acc => by simp
 | y :: l, acc => by rw [List.foldl_cons]; show l.foldl (stA x) (acc ++ [y], true) = _; rw [foldA_done x l]; simp
theorem foldA (x : Nd) : ∀ (l acc : List Nd), x ∉ l → (if (l.foldl (stA x) (acc, false)).2 = true then (l.foldl (stA x) (acc, false)).1 else (l.foldl (stA x) (acc, false)).1 ++ [x]) = acc ++ addR l x
 | [], acc, _ => by simp [addR]
 | y :: l, acc, h => by
  have hne : ¬ eqN y x = true := fun e => h (by rw [eqN_iff.mp e]; simp)
  rw [List.foldl_cons]
  unfold addR
  rw [if_neg hne]
  by_cases h2 : ltN x y = true
  ·rw [if_pos h2, show stA x (acc, false) y = (acc ++ [x] ++ [y], true) by unfold stA; rw [if_neg (show ¬ ((acc, false) : List Nd × Bool).2 = true from fun e => Bool.noConfusion e), if_pos h2], foldA_done]
   simp
  ·rw [if_neg h2, show stA x (acc, false) y = (acc ++ [y], false) by unfold stA; rw [if_neg (show ¬ ((acc, false) : List Nd × Bool).2 = true from fun e => Bool.noConfusion e), if_neg h2], foldA x l _ (fun e => h (List.mem_cons_of_mem _ e))]
   simp
theorem accA_add {x : Nd} {r : List Nd} (h : x ∉ r) : (if (accA x r).2 = true then (accA x r).1 else (accA x r).1 ++ [x]) = addR r x := by
 have := foldA x r [] h
 rw [List.nil_append] at this
 exact this
def ref_Add.T8 : Bool × List (List Nat × List Nat) := (true, [([], []), ([0], [0]), ([1], [1]), ([2], [2]), ([2], [2]), ([2], [2]), ([4, 5, 2], [2, 4, 5]), ([6, 2], [2, 6]), ([3, 7, 2, 2], [2, 3, 7]), ([2, 8], [2, 8])])
def ref_Add.B8 : List Nat := [0, 1, 3, 7, 7, 7, 55, 119, 255, 511]
theorem ref_Add.tab8 : rtab .any (opsOf Tryd.f19 8) = ref_Add.T8 := by kernel_rfl
theorem ref_Add.bits8 : waitsOk ref_Add.T8.2 ref_Add.B8 = true := by kernel_rfl
set_option maxRecDepth 100000 in
set_option maxHeartbeats 8000000 in
theorem ref_Add (A : Option Addr) (c : Nat) (ys : List Rd) (r : List Nd) (x : Nd) (w : World) (hys : ys = r.map toR) (hr : Kd.C k30 w A ys.length ys) (hc : ys.length ≤ c) (hu : Up r) (hl : r.length ≤ 100000) :
  Calls Tryd.prog 19 #[.slice A ys.length c, .agg #[.int .i64 x.f0, .int .i64 x.f1, .string x.f2]] w fun e w' => ∃ A' c' zs, Aside0 (zs = (addR r x).map toR) ∧ e = .returned (.slice A' zs.length c') ∧ zs.length ≤ c' ∧ Kd.C k30 w' A' zs.length zs ∧ Below w.heap.size w w' := by
 obtain ⟨k, hk⟩ := has_ev x r hl
 have hk := hk k (Nat.le_refl _)
 rw [← hys] at hk
 have HY := Aside0.mk hys
 have HYL : Aside0 (ys.length = r.length) := ⟨by rw [hys, List.length_map]⟩
 have HB1 := Aside0.mk (below_alloc (Below.refl w.heap.size w) (.cells #[.int .i64 x.f0, .int .i64 x.f1, .string x.f2] 30))
 have HR1 := Aside0.mk (Kd.C_below hr (below_alloc (Below.refl _ _) (.cells #[.int .i64 x.f0, .int .i64 x.f1, .string x.f2] 30)))
 have HT1 : Aside0 ((w.alloc (.cells #[.int .i64 x.f0, .int .i64 x.f1, .string x.f2] 30)).heap[w.heap.size]? = some (.cells #[.int .i64 x.f0, .int .i64 x.f1, .string x.f2] 30 (0, 0))) := ⟨blk_new _ _⟩
 have HC := Aside0.mk hc; have HU := Aside0.mk hu; have HL := Aside0.mk hl; have HK := Aside0.mk hk
 clear hr hc hu hl hk hys
 go_enter Tryd.func19, Tryd.ntmps19
 go_upto_region 1 with (fail)
 generalize w.alloc (.cells #[.int .i64 x.f0, .int .i64 x.f1, .string x.f2] 30) = w1 at HB1 HR1 HT1 ⊢
 obtain ⟨gs, hgs⟩ : ∃ g, g = w.heap.size := ⟨_, rfl⟩
 rw [← hgs] at HT1 ⊢
 clear hgs
 have ht := bk3 HT1.out
 go_wp2_with fail
 clear ht
 refine (truantref18_Has.calls k A c ys x.f0 x.f1 x.f2 (decB (x ∈ r)) w1 HR1.out HC.out HK.out).mono ?_
 rintro e w2 ⟨rfl, hb2⟩
 have HR2 := Aside0.mk (Kd.C_below HR1.out hb2)
 have HB2 := Aside0.mk (below_step HB1.out hb2)
 have HT2 := Aside0.mk (blk_below HT1.out hb2)
 clear hb2 HR1 HB1 HT1 HK
 by_cases hm : x ∈ r
 ·rw [decB_true hm]
  have HE : Aside0 (addR r x = r) := ⟨addR_has HU.out (fun a b => ltN_asymm) hm⟩
  clear hm
  go_wp2
  go_ret
  exact ⟨A, c, ys, ⟨by rw [HE.out]; exact HY.out⟩, rfl, HC.out, HR2.out, HB2.out⟩
 ·rw [decB_false hm]
  have HM := Aside0.mk hm
  clear hm
  go_wp2_with ((with_reducible refine gate_dst (N := 12) rfl ?_); refine Kd.R_lit k30 _ 30 ?hg (N := 12) ?hd (xs := ([] : List Rd)) (inner := []) (ok := fun _ => True) (okp := fun _ => True) ?hr ?hp (fun _ hk => hk) trivial (Below.refl _ _) (Nat.le_refl _) (by simp) ?_; (case hd => rfl); (case hg => rfl); (case hr => first | (go_simp; done) | (go_simp; rfl)); (case hp => exact (Reps.none _ _)); intro v12 w3 ho3 hb3 hg_ hnew_; clear hg_ hnew_; have HO3 := Aside0.mk ho3; have HW3 := Aside0.mk hb3; clear ho3 hb3)
  go_loopw [5, 6, 7] (fun v5 v6 v7 wr => ∃ (i : Nat) (rs : List Rd), v7 = .int .i64 i ∧ i ≤ ys.length ∧ v6 = .bool (accA x (r.take i)).2 ∧ Aside0 (rs = (accA x (r.take i)).1.map toR) ∧ Aside0 (k30.R 30 wr w2.heap.size (fun _ => True) v5 rs) ∧ Aside0 (Below w2.heap.size w2 wr)) (fun _ _ v7 _ => ys.length - (intOf v7).toNat)
  case atStart => exact ⟨0, [], rfl, Nat.zero_le _, rfl, ⟨rfl⟩, HO3, HW3⟩
  case round =>
   clear HO3 HW3
   obtain ⟨i, rs, rfl, hi, rfl, HRS, HO, HW⟩ := hrel
   have hn1 : ys.length ≤ 100000 := by rw [HYL.out]; exact HL.out
   by_cases hlt : i < ys.length
   ·obtain ⟨ad5, e5, _⟩ := at_T30 HR2.out (i : Int) (by omega) (by omega)
    subst e5
    have hlr : i < r.length := by rw [← HYL.out]; exact hlt
    obtain ⟨y, ey⟩ : ∃ y, y = r[i] := ⟨_, rfl⟩
    have hrd : rd_T30 ys (i : Int) = toR y := by rw [ey, HY.out]; unfold rd_T30; rw [Int.toNat_natCast]; simp [hlr]
    have hltm : (i : Int) < (ys.length : Int) := by omega
    have HCY : Aside0 (∀ w', Below w2.heap.size w2 w' → w'.cell? (ad5.add (i * 3)) = some (.int .i64 y.f0) ∧ w'.cell? ⟨(ad5.add (i * 3)).block, (ad5.add (i * 3)).off + 1, none⟩ = some (.int .i64 y.f1) ∧ w'.cell? ⟨(ad5.add (i * 3)).block, (ad5.add (i * 3)).off + 2, none⟩ = some (.string y.f2)) := ⟨fun w' hb => by
     obtain ⟨ad, e, h0, h1, h2⟩ := at_T30 (Kd.C_below HR2.out hb) (i : Int) (by omega) (by omega)
     cases e
     rw [hrd] at h0 h1 h2
     exact ⟨h0, h1, h2⟩⟩
    have HS : Aside0 (accA x (r.take (i + 1)) = stA x (accA x (r.take i)) y) := ⟨by rw [List.take_succ_eq_append_getElem hlr, accA_snoc, ey]⟩
    have HLA : Aside0 (rs.length ≤ r.length + 1) := ⟨by rw [HRS.out, List.length_map]; have := accA_le x (r.take i); rw [List.length_take] at this; omega⟩
    clear hrd ey hlr
    obtain ⟨s, hs⟩ : ∃ s, s = accA x (r.take i) := ⟨_, rfl⟩
    rw [← hs] at HS HRS ⊢
    clear hs
    obtain ⟨acc, d⟩ := s
    have HRS2 : Aside0 (rs = acc.map toR) := HRS
    clear HRS
    have HWS := Aside0.mk HW.out.size
    cases d with
    | true =>
     have HS2 : Aside0 (accA x (r.take (i + 1)) = (acc ++ [y], true)) := ⟨by rw [HS.out]; rfl⟩
     clear HS
     go_upto_region 8 with (fail)
     refine start_ (n := 10) (S := fun w' => Below wr.heap.size wr w') (ds := []) (tf 0 10) (by kernel_rfl) rfl rfl ((below_drew1 (Below.refl _ _))) (fun hHeld => ?_)
     refine with_tabW ref_Add.tab8 ref_Add.bits8 (fun HT_ HW_ => ?_)
     refine pure_ (i := 0) (N := some 19) (v := ?_) (a' := ?_) (tf 1 9) rfl rfl (any_of HT_.out (by kernel_rfl)) (fun _ _ _ h => h) (Or.inl ⟨by rfl, ?_⟩) ?_ ?_
     rotate_left
     ·intro w'
      go_simp
      with_reducible rfl
     rotate_left
     ·simp only [Act.put, List.setIfInBounds_toArray, List.set_cons_zero, List.set_cons_succ, i64_w, i32_w]
      rfl
     refine pure_ (i := 1) (N := some 20) (v := ?_) (a' := ?_) (tf 2 8) rfl rfl (any_of HT_.out (by kernel_rfl)) (fun _ _ _ h => h) (Or.inl ⟨by rfl, ?_⟩) ?_ ?_
     rotate_left
     ·intro w'
      go_simp
      with_reducible rfl
     rotate_left
     ·simp only [Act.put, List.setIfInBounds_toArray, List.set_cons_zero, List.set_cons_succ, i64_w, i32_w]
      rfl
     refine pure_ (i := 2) (N := some 21) (v := ?_) (a' := ?_) (tf 3 7) rfl rfl (any_of HT_.out (by kernel_rfl)) (fun _ _ _ h => h) (Or.inl ⟨by rfl, ?_⟩) ?_ ?_
     rotate_left
     ·intro w'
      go_simp
      with_reducible rfl
     rotate_left
     ·simp only [Act.put, List.setIfInBounds_toArray, List.set_cons_zero, List.set_cons_succ, i64_w, i32_w]
      rfl
     refine pure_ (i := 3) (N := some 22) (v := undef) (a' := ?_) (tf 4 6) rfl rfl (any_of HT_.out (by kernel_rfl)) (fun _ _ _ h => h) (Or.inr ⟨by rfl, rfl⟩) ?_ ?_
     rotate_left
     ·simp only [Act.put, List.setIfInBounds_toArray, List.set_cons_zero, List.set_cons_succ, i64_w, i32_w]
      rfl
     refine pure_ (i := 4) (N := some 23) (v := undef) (a' := ?_) (tf 5 5) rfl rfl (any_of HT_.out (by kernel_rfl)) (fun _ _ _ h => h) (Or.inr ⟨by rfl, rfl⟩) ?_ ?_
     rotate_left
     ·simp only [Act.put, List.setIfInBounds_toArray, List.set_cons_zero, List.set_cons_succ, i64_w, i32_w]
      rfl
     refine pure_ (i := 5) (N := some 24) (v := undef) (a' := ?_) (tf 6 4) rfl rfl (any_of HT_.out (by kernel_rfl)) (fun _ _ _ h => h) (Or.inr ⟨by rfl, rfl⟩) ?_ ?_
     rotate_left
     ·simp only [Act.put, List.setIfInBounds_toArray, List.set_cons_zero, List.set_cons_succ, i64_w, i32_w]
      rfl
     refine pure_ (i := 6) (N := some 25) (v := undef) (a' := ?_) (tf 7 3) rfl rfl (any_of HT_.out (by kernel_rfl)) (fun _ _ _ h => h) (Or.inr ⟨by rfl, rfl⟩) ?_ ?_
     rotate_left
     ·simp only [Act.put, List.setIfInBounds_toArray, List.set_cons_zero, List.set_cons_succ, i64_w, i32_w]
      rfl
     refine pure_ (i := 7) (N := some 26) (v := undef) (a' := ?_) (tf 8 2) rfl rfl (any_of HT_.out (by kernel_rfl)) (fun _ _ _ h => h) (Or.inr ⟨by rfl, rfl⟩) ?_ ?_
     rotate_left
     ·simp only [Act.put, List.setIfInBounds_toArray, List.set_cons_zero, List.set_cons_succ, i64_w, i32_w]
      rfl
     refine pure_ (i := 8) (N := some 27) (v := undef) (a' := ?_) (tf 9 1) rfl rfl (any_of HT_.out (by kernel_rfl)) (fun _ _ _ h => h) (Or.inr ⟨by rfl, rfl⟩) ?_ ?_
     rotate_left
     ·simp only [Act.put, List.setIfInBounds_toArray, List.set_cons_zero, List.set_cons_succ, i64_w, i32_w]
      rfl
     refine pure_ (i := 9) (N := some 28) (v := ?_) (a' := ?_) (tf 10 0) rfl rfl (any_of HT_.out (by kernel_rfl)) (fun _ _ _ h => h) (Or.inl ⟨by rfl, ?_⟩) ?_ ?_
     rotate_left
     ·intro w'
      go_simp
      with_reducible rfl
     rotate_left
     ·simp only [Act.put, List.setIfInBounds_toArray, List.set_cons_zero, List.set_cons_succ, i64_w, i32_w]
      rfl
     refine done_ (done_of HT_.out (by kernel_rfl)) ?_
     generalize wr.drew = wd at hHeld ⊢
     have HO3 := Aside0.mk (Kd.R_below HO.out hHeld); have HW3 := Aside0.mk (below_step HW.out hHeld)
     obtain ⟨hy0, hy1, hy2⟩ := HCY.out _ HW3.out
     clear hHeld
     go_wp2_with ((with_reducible refine gate_builtin (b := .append) (xs := #[.tmp 33, .tmp 38]) rfl ?_); at_builtin; refine Kd.R_append k30 (w0 := w2) w2.heap.size rfl (.tmp 33) (.tmp 38) 46 30 (.agg #[.int .i64 0, .int .i64 0, .string ⟨#[]⟩]) 32 rfl Tryd.underlying46 infoRd rfl (by decide) (by decide) _ rs (toR y) [.int .i64 y.f0, .int .i64 y.f1, .string y.f2] (fun _ => True) (fun _ => False) rfl rfl ?aP (fun _ hk => hk.elim) (fun _ _ => trivial) ?aO ?aB ?aS ?aL ?_; (case aP => exact k30_mkM _ _ _ (toR y)); (case aB => exact HW3.out); (case aO => exact HO3.out); (case aS => exact HW3.out.size); (case aL => have := HLA.out; have := HL.out; omega); intro v20 w20 ho20 hb20 hg_ hat_; clear hg_ hat_; have HO20 := Aside0.mk ho20; have HW20 := Aside0.mk hb20; clear ho20 hb20)
     go_roundw
     case rel => exact ⟨i + 1, rs ++ [toR y], by simp, by omega, by rw [HS2.out], ⟨by rw [HS2.out, HRS2.out]; simp⟩, HO20, HW20⟩
     case measure => show ys.length - ((i : Int) + 1).toNat < ys.length - (i : Int).toNat; omega
    | false =>
     by_cases hxy : ltN x y = true
     ·have HS2 : Aside0 (accA x (r.take (i + 1)) = (acc ++ [x] ++ [y], true)) := ⟨by rw [HS.out]; unfold stA; rw [if_neg (show ¬ ((acc, false) : List Nd × Bool).2 = true from fun e => Bool.noConfusion e), if_pos hxy]⟩
      have HX := Aside0.mk (show truantref18_Less.f x.f0 x.f1 x.f2 y.f0 y.f1 y.f2 = some true by rw [lessR_f x y, hxy])
      clear HS hxy
      go_upto_region 8 with (fail)
      refine start_ (n := 10) (S := fun w' => Below wr.heap.size wr w') (ds := []) (tf 0 10) (by kernel_rfl) rfl rfl ((below_drew1 (Below.refl _ _))) (fun hHeld => ?_)
      refine with_tabW ref_Add.tab8 ref_Add.bits8 (fun HT_ HW_ => ?_)
      refine pure_ (i := 0) (N := some 19) (v := ?_) (a' := ?_) (tf 1 9) rfl rfl (any_of HT_.out (by kernel_rfl)) (fun _ _ _ h => h) (Or.inl ⟨by rfl, ?_⟩) ?_ ?_
      rotate_left
      ·intro w'
       go_simp
       with_reducible rfl
      rotate_left
      ·simp only [Act.put, List.setIfInBounds_toArray, List.set_cons_zero, List.set_cons_succ, i64_w, i32_w]
       rfl
      refine pure_ (i := 1) (N := some 20) (v := ?_) (a' := ?_) (tf 2 8) rfl rfl (any_of HT_.out (by kernel_rfl)) (fun _ _ _ h => h) (Or.inl ⟨by rfl, ?_⟩) ?_ ?_
      rotate_left
      ·intro w'
       go_simp
       with_reducible rfl
      rotate_left
      ·simp only [Act.put, List.setIfInBounds_toArray, List.set_cons_zero, List.set_cons_succ, i64_w, i32_w]
       rfl
      refine pure_ (i := 2) (N := some 21) (v := ?_) (a' := ?_) (tf 3 7) rfl rfl (any_of HT_.out (by kernel_rfl)) (fun _ _ _ h => h) (Or.inl ⟨by rfl, ?_⟩) ?_ ?_
      rotate_left
      ·intro w'
       go_simp
       with_reducible rfl
      rotate_left
      ·simp only [Act.put, List.setIfInBounds_toArray, List.set_cons_zero, List.set_cons_succ, i64_w, i32_w]
       rfl
      refine pure_ (i := 4) (N := some 23) (v := ?_) (a' := ?_) #[true, true, true, false, true, false, false, false, false, false] rfl rfl (any_of HT_.out (by kernel_rfl)) (fun _ _ _ h => h) (Or.inl ⟨by rfl, ?_⟩) ?_ ?_
      rotate_left
      ·intro w'
       go_simp
       with_reducible rfl
      rotate_left
      ·simp only [Act.put, List.setIfInBounds_toArray, List.set_cons_zero, List.set_cons_succ, i64_w, i32_w]
       rfl
      refine pure_ (i := 5) (N := some 24) (v := ?_) (a' := ?_) #[true, true, true, false, true, true, false, false, false, false] rfl rfl (any_of HT_.out (by kernel_rfl)) (fun _ _ _ h => h) (Or.inl ⟨by rfl, ?_⟩) ?_ ?_
      rotate_left
      ·intro w'
       go_simp
       with_reducible rfl
      rotate_left
      ·simp only [Act.put, List.setIfInBounds_toArray, List.set_cons_zero, List.set_cons_succ, i64_w, i32_w]
       rfl
      refine pure_ (i := 6) (N := some 25) (v := ?_) (a' := ?_) #[true, true, true, false, true, true, true, false, false, false] rfl rfl (any_of HT_.out (by kernel_rfl)) (fun _ _ _ h => h) (Or.inl ⟨by rfl, ?_⟩) ?_ ?_
      rotate_left
      ·intro w'
       go_simp
       with_reducible rfl
      rotate_left
      ·simp only [Act.put, List.setIfInBounds_toArray, List.set_cons_zero, List.set_cons_succ, i64_w, i32_w]
       rfl
      refine take_ (i := 3) (N := some 22) (v := ?_) (a' := ?_) (tf 7 3) rfl rfl (take_ofW HT_.out HW_.out (by kernel_rfl)) (fun _ _ _ h => h) (Or.inl ⟨by rfl, ?_⟩) hHeld ?_ ?_
      rotate_left
      ·intro w' s0
       obtain ⟨x0, x1, x2, _⟩ := bk3 (blk_below HT2.out (below_step HW.out s0))
       go_simp
       with_reducible rfl
      rotate_left
      ·simp only [Act.put, List.setIfInBounds_toArray, List.set_cons_zero, List.set_cons_succ, i64_w, i32_w]
       rfl
      refine take_ (i := 7) (N := some 26) (v := ?_) (a' := ?_) (tf 8 2) rfl rfl (take_ofW HT_.out HW_.out (by kernel_rfl)) (fun _ _ _ h => h) (Or.inl ⟨by rfl, ?_⟩) hHeld ?_ ?_
      rotate_left
      ·intro w' s0
       obtain ⟨x0, x1, x2⟩ := HCY.out w' (below_step HW.out s0)
       go_simp
       with_reducible rfl
      rotate_left
      ·simp only [Act.put, List.setIfInBounds_toArray, List.set_cons_zero, List.set_cons_succ, i64_w, i32_w]
       rfl
      refine one_ (i := 8) (N := some 27) (tf 9 1) rfl rfl (one_of HT_.out (by kernel_rfl)) (by decide) (fun K hK => ?_)
      refine goes_ Tryd.func8 (by kernel_rfl) rfl #[.agg #[.int .i64 x.f0, .int .i64 x.f1, .string x.f2], .agg #[.int .i64 y.f0, .int .i64 y.f1, .string y.f2]] (by rfl) rfl rfl (by simp only [List.map_toArray, List.map_cons, List.map_nil]; rfl) ?_
      refine (truantref18_Less.calls _ _ _ _ _ _ true _ HX.out).mono ?_
      rintro e w908 ⟨rfl, hb⟩
      refine ⟨_, rfl, ?_⟩
      refine hK.out _ _ (below_step hHeld hb) (fun hHeld => ?_)
      clear hK K
      refine norm_ (a' := ?_) ?_ ?_
      rotate_left
      ·show Act.put _ (some 27) _ = _
       simp only [Act.put, List.setIfInBounds_toArray, List.set_cons_zero, List.set_cons_succ, i64_w, i32_w]
       rfl
      refine pure_ (i := 9) (N := some 28) (v := ?_) (a' := ?_) (tf 10 0) rfl rfl (any_of HT_.out (by kernel_rfl)) (fun _ _ _ h => h) (Or.inl ⟨by rfl, ?_⟩) ?_ ?_
      rotate_left
      ·intro w'
       go_simp
       with_reducible rfl
      rotate_left
      ·simp only [Act.put, List.setIfInBounds_toArray, List.set_cons_zero, List.set_cons_succ, i64_w, i32_w]
       rfl
      refine done_ (done_of HT_.out (by kernel_rfl)) ?_
      have HO3 := Aside0.mk (Kd.R_below HO.out hHeld); have HW3 := Aside0.mk (below_step HW.out hHeld)
      obtain ⟨hx0, hx1, hx2, _⟩ := bk3 (blk_below HT2.out HW3.out)
      clear hHeld
      go_upto_region 10 with ((with_reducible refine gate_builtin (b := .append) (xs := #[.tmp 29, .tmp 31]) rfl ?_); at_builtin; refine Kd.R_append k30 (w0 := w2) w2.heap.size rfl (.tmp 29) (.tmp 31) 46 30 (.agg #[.int .i64 0, .int .i64 0, .string ⟨#[]⟩]) 32 rfl Tryd.underlying46 infoRd rfl (by decide) (by decide) _ rs (toR x) [.int .i64 x.f0, .int .i64 x.f1, .string x.f2] (fun _ => True) (fun _ => False) rfl rfl ?aP (fun _ hk => hk.elim) (fun _ _ => trivial) ?aO ?aB ?aS ?aL ?_; (case aP => exact k30_mkM _ _ _ (toR x)); (case aB => exact HW3.out); (case aO => exact HO3.out); (case aS => exact HW3.out.size); (case aL => have := HLA.out; have := HL.out; omega); intro v20 w20 ho20 hb20 hg_ hat_; clear hg_ hat_; have HO20 := Aside0.mk ho20; have HW20 := Aside0.mk hb20; clear ho20 hb20)
      obtain ⟨rs2, hrs2⟩ : ∃ z, z = rs ++ [toR x] := ⟨_, rfl⟩
      rw [← hrs2] at HO20
      have HLA2 : Aside0 (rs2.length ≤ r.length + 2) := ⟨by rw [hrs2, List.length_append, List.length_singleton]; have := HLA.out; omega⟩
      have HRS3 := Aside0.mk hrs2
      clear hrs2 hx0 hx1 hx2
      obtain ⟨hy0, hy1, hy2⟩ := HCY.out _ HW20.out
      go_wp2_with ((with_reducible refine gate_builtin (b := .append) (xs := #[.tmp 33, .tmp 38]) rfl ?_); at_builtin; refine Kd.R_append k30 (w0 := w2) w2.heap.size rfl (.tmp 33) (.tmp 38) 46 30 (.agg #[.int .i64 0, .int .i64 0, .string ⟨#[]⟩]) 32 rfl Tryd.underlying46 infoRd rfl (by decide) (by decide) _ rs2 (toR y) [.int .i64 y.f0, .int .i64 y.f1, .string y.f2] (fun _ => True) (fun _ => False) rfl rfl ?aP (fun _ hk => hk.elim) (fun _ _ => trivial) ?aO ?aB ?aS ?aL ?_; (case aP => exact k30_mkM _ _ _ (toR y)); (case aB => exact HW20.out); (case aO => exact HO20.out); (case aS => exact HW20.out.size); (case aL => have := HLA.out; have := HL.out; have := HLA2.out; omega); intro v21 w21 ho21 hb21 hg_ hat_; clear hg_ hat_; have HO21 := Aside0.mk ho21; have HW21 := Aside0.mk hb21; clear ho21 hb21)
      go_roundw
      case rel => exact ⟨i + 1, rs2 ++ [toR y], by simp, by omega, by rw [HS2.out], ⟨by rw [HS2.out, HRS3.out, HRS2.out]; simp⟩, HO21, HW21⟩
      case measure => show ys.length - ((i : Int) + 1).toNat < ys.length - (i : Int).toNat; omega
     ·have HS2 : Aside0 (accA x (r.take (i + 1)) = (acc ++ [y], false)) := ⟨by rw [HS.out]; unfold stA; rw [if_neg (show ¬ ((acc, false) : List Nd × Bool).2 = true from fun e => Bool.noConfusion e), if_neg hxy]⟩
      have HX := Aside0.mk (show truantref18_Less.f x.f0 x.f1 x.f2 y.f0 y.f1 y.f2 = some false by rw [lessR_f x y]; simpa using hxy)
      clear HS hxy
      go_upto_region 8 with (fail)
      refine start_ (n := 10) (S := fun w' => Below wr.heap.size wr w') (ds := []) (tf 0 10) (by kernel_rfl) rfl rfl ((below_drew1 (Below.refl _ _))) (fun hHeld => ?_)
      refine with_tabW ref_Add.tab8 ref_Add.bits8 (fun HT_ HW_ => ?_)
      refine pure_ (i := 0) (N := some 19) (v := ?_) (a' := ?_) (tf 1 9) rfl rfl (any_of HT_.out (by kernel_rfl)) (fun _ _ _ h => h) (Or.inl ⟨by rfl, ?_⟩) ?_ ?_
      rotate_left
      ·intro w'
       go_simp
       with_reducible rfl
      rotate_left
      ·simp only [Act.put, List.setIfInBounds_toArray, List.set_cons_zero, List.set_cons_succ, i64_w, i32_w]
       rfl
      refine pure_ (i := 1) (N := some 20) (v := ?_) (a' := ?_) (tf 2 8) rfl rfl (any_of HT_.out (by kernel_rfl)) (fun _ _ _ h => h) (Or.inl ⟨by rfl, ?_⟩) ?_ ?_
      rotate_left
      ·intro w'
       go_simp
       with_reducible rfl
      rotate_left
      ·simp only [Act.put, List.setIfInBounds_toArray, List.set_cons_zero, List.set_cons_succ, i64_w, i32_w]
       rfl
      refine pure_ (i := 2) (N := some 21) (v := ?_) (a' := ?_) (tf 3 7) rfl rfl (any_of HT_.out (by kernel_rfl)) (fun _ _ _ h => h) (Or.inl ⟨by rfl, ?_⟩) ?_ ?_
      rotate_left
      ·intro w'
       go_simp
       with_reducible rfl
      rotate_left
      ·simp only [Act.put, List.setIfInBounds_toArray, List.set_cons_zero, List.set_cons_succ, i64_w, i32_w]
       rfl
      refine pure_ (i := 4) (N := some 23) (v := ?_) (a' := ?_) #[true, true, true, false, true, false, false, false, false, false] rfl rfl (any_of HT_.out (by kernel_rfl)) (fun _ _ _ h => h) (Or.inl ⟨by rfl, ?_⟩) ?_ ?_
      rotate_left
      ·intro w'
       go_simp
       with_reducible rfl
      rotate_left
      ·simp only [Act.put, List.setIfInBounds_toArray, List.set_cons_zero, List.set_cons_succ, i64_w, i32_w]
       rfl
      refine pure_ (i := 5) (N := some 24) (v := ?_) (a' := ?_) #[true, true, true, false, true, true, false, false, false, false] rfl rfl (any_of HT_.out (by kernel_rfl)) (fun _ _ _ h => h) (Or.inl ⟨by rfl, ?_⟩) ?_ ?_
      rotate_left
      ·intro w'
       go_simp
       with_reducible rfl
      rotate_left
      ·simp only [Act.put, List.setIfInBounds_toArray, List.set_cons_zero, List.set_cons_succ, i64_w, i32_w]
       rfl
      refine pure_ (i := 6) (N := some 25) (v := ?_) (a' := ?_) #[true, true, true, false, true, true, true, false, false, false] rfl rfl (any_of HT_.out (by kernel_rfl)) (fun _ _ _ h => h) (Or.inl ⟨by rfl, ?_⟩) ?_ ?_
      rotate_left
      ·intro w'
       go_simp
       with_reducible rfl
      rotate_left
      ·simp only [Act.put, List.setIfInBounds_toArray, List.set_cons_zero, List.set_cons_succ, i64_w, i32_w]
       rfl
      refine take_ (i := 3) (N := some 22) (v := ?_) (a' := ?_) (tf 7 3) rfl rfl (take_ofW HT_.out HW_.out (by kernel_rfl)) (fun _ _ _ h => h) (Or.inl ⟨by rfl, ?_⟩) hHeld ?_ ?_
      rotate_left
      ·intro w' s0
       obtain ⟨x0, x1, x2, _⟩ := bk3 (blk_below HT2.out (below_step HW.out s0))
       go_simp
       with_reducible rfl
      rotate_left
      ·simp only [Act.put, List.setIfInBounds_toArray, List.set_cons_zero, List.set_cons_succ, i64_w, i32_w]
       rfl
      refine take_ (i := 7) (N := some 26) (v := ?_) (a' := ?_) (tf 8 2) rfl rfl (take_ofW HT_.out HW_.out (by kernel_rfl)) (fun _ _ _ h => h) (Or.inl ⟨by rfl, ?_⟩) hHeld ?_ ?_
      rotate_left
      ·intro w' s0
       obtain ⟨x0, x1, x2⟩ := HCY.out w' (below_step HW.out s0)
       go_simp
       with_reducible rfl
      rotate_left
      ·simp only [Act.put, List.setIfInBounds_toArray, List.set_cons_zero, List.set_cons_succ, i64_w, i32_w]
       rfl
      refine one_ (i := 8) (N := some 27) (tf 9 1) rfl rfl (one_of HT_.out (by kernel_rfl)) (by decide) (fun K hK => ?_)
      refine goes_ Tryd.func8 (by kernel_rfl) rfl #[.agg #[.int .i64 x.f0, .int .i64 x.f1, .string x.f2], .agg #[.int .i64 y.f0, .int .i64 y.f1, .string y.f2]] (by rfl) rfl rfl (by simp only [List.map_toArray, List.map_cons, List.map_nil]; rfl) ?_
      refine (truantref18_Less.calls _ _ _ _ _ _ false _ HX.out).mono ?_
      rintro e w908 ⟨rfl, hb⟩
      refine ⟨_, rfl, ?_⟩
      refine hK.out _ _ (below_step hHeld hb) (fun hHeld => ?_)
      clear hK K
      refine norm_ (a' := ?_) ?_ ?_
      rotate_left
      ·show Act.put _ (some 27) _ = _
       simp only [Act.put, List.setIfInBounds_toArray, List.set_cons_zero, List.set_cons_succ, i64_w, i32_w]
       rfl
      refine pure_ (i := 9) (N := some 28) (v := ?_) (a' := ?_) (tf 10 0) rfl rfl (any_of HT_.out (by kernel_rfl)) (fun _ _ _ h => h) (Or.inl ⟨by rfl, ?_⟩) ?_ ?_
      rotate_left
      ·intro w'
       go_simp
       with_reducible rfl
      rotate_left
      ·simp only [Act.put, List.setIfInBounds_toArray, List.set_cons_zero, List.set_cons_succ, i64_w, i32_w]
       rfl
      refine done_ (done_of HT_.out (by kernel_rfl)) ?_
      have HO3 := Aside0.mk (Kd.R_below HO.out hHeld); have HW3 := Aside0.mk (below_step HW.out hHeld)
      obtain ⟨hy0, hy1, hy2⟩ := HCY.out _ HW3.out
      clear hHeld
      go_wp2_with ((with_reducible refine gate_builtin (b := .append) (xs := #[.tmp 33, .tmp 38]) rfl ?_); at_builtin; refine Kd.R_append k30 (w0 := w2) w2.heap.size rfl (.tmp 33) (.tmp 38) 46 30 (.agg #[.int .i64 0, .int .i64 0, .string ⟨#[]⟩]) 32 rfl Tryd.underlying46 infoRd rfl (by decide) (by decide) _ rs (toR y) [.int .i64 y.f0, .int .i64 y.f1, .string y.f2] (fun _ => True) (fun _ => False) rfl rfl ?aP (fun _ hk => hk.elim) (fun _ _ => trivial) ?aO ?aB ?aS ?aL ?_; (case aP => exact k30_mkM _ _ _ (toR y)); (case aB => exact HW3.out); (case aO => exact HO3.out); (case aS => exact HW3.out.size); (case aL => have := HLA.out; have := HL.out; omega); intro v20 w20 ho20 hb20 hg_ hat_; clear hg_ hat_; have HO20 := Aside0.mk ho20; have HW20 := Aside0.mk hb20; clear ho20 hb20)
      go_roundw
      case rel => exact ⟨i + 1, rs ++ [toR y], by simp, by omega, by rw [HS2.out], ⟨by rw [HS2.out, HRS2.out]; simp⟩, HO20, HW20⟩
      case measure => show ys.length - ((i : Int) + 1).toNat < ys.length - (i : Int).toNat; omega
   ·have e : i = ys.length := by omega
    subst e
    have HRL : Aside0 (r.take ys.length = r) := ⟨by rw [HYL.out, List.take_length]⟩
    have HF := Aside0.mk (accA_add HM.out)
    have HLA : Aside0 (rs.length ≤ r.length + 1) := ⟨by rw [HRS.out, List.length_map, HRL.out]; exact accA_le x r⟩
    rw [HRL.out] at HRS ⊢
    obtain ⟨s, hs⟩ : ∃ s, s = accA x r := ⟨_, rfl⟩
    rw [← hs] at HF HRS ⊢
    clear hs
    obtain ⟨acc, d⟩ := s
    have HRS2 : Aside0 (rs = acc.map toR) := HRS
    clear HRS
    cases d with
    | true =>
     have HF2 : Aside0 (acc = addR r x) := HF
     obtain ⟨Ao, co, eo⟩ := Kd.R_slice HO.out
     subst eo
     go_wp2
     go_ret
     exact ⟨Ao, co, rs, ⟨by rw [HRS2.out, HF2.out]⟩, rfl, (Kd.R_reads' HO.out).2.1, (Kd.R_reads' HO.out).2.2, below_step HB2.out HW.out⟩
    | false =>
     have HF2 : Aside0 (acc ++ [x] = addR r x) := HF
     obtain ⟨hx0, hx1, hx2, _⟩ := bk3 (blk_below HT2.out HW.out)
     go_wp2_with ((with_reducible refine gate_builtin (b := .append) (xs := #[.tmp 42, .tmp 44]) rfl ?_); at_builtin; refine Kd.R_append k30 (w0 := w2) w2.heap.size rfl (.tmp 42) (.tmp 44) 46 30 (.agg #[.int .i64 0, .int .i64 0, .string ⟨#[]⟩]) 32 rfl Tryd.underlying46 infoRd rfl (by decide) (by decide) _ rs (toR x) [.int .i64 x.f0, .int .i64 x.f1, .string x.f2] (fun _ => True) (fun _ => False) rfl rfl ?aP (fun _ hk => hk.elim) (fun _ _ => trivial) ?aO ?aB ?aS ?aL ?_; (case aP => exact k30_mkM _ _ _ (toR x)); (case aB => exact HW.out); (case aO => exact HO.out); (case aS => exact HW.out.size); (case aL => have := HLA.out; have := HL.out; omega); intro v20 w20 ho20 hb20 hg_ hat_; clear hg_ hat_; have HO20 := Aside0.mk ho20; have HW20 := Aside0.mk hb20; clear ho20 hb20)
     obtain ⟨Ao, co, eo⟩ := Kd.R_slice HO20.out
     subst eo
     go_ret
     exact ⟨Ao, co, rs ++ [toR x], ⟨by rw [HRS2.out, ← HF2.out]; simp⟩, rfl, (Kd.R_reads' HO20.out).2.1, (Kd.R_reads' HO20.out).2.2, below_step HB2.out HW20.out⟩
noncomputable def truantlaw18_NodeSets.f (k : Nat) (l0 l1 : List S24) (a2_0 a2_1 : Int) (a2_2 a3 : ByteArray) : Option (Bool) :=
 if decB ((∀ x ∈ l0, ndW x) ∧ (∀ x ∈ l1, ndW x) ∧ ndW ⟨a2_0, a2_1, a2_2⟩) = true then some true else none
theorem same_yes (m : Option Nat) (r : List Nd) (A : Option Addr) (c : Nat) (ys : List Rd) (w : World) (h : SetO w m r) (hy : Kd.C k30 w A ys.length ys) (hc : ys.length ≤ c) (hlen : r.length ≤ 1000000) (he : r.map toR = ys) :
  Calls Tryd.prog 20 #[.agg #[.map m], .slice A ys.length c] w fun e w' => e = .returned (.bool true) ∧ Below w.heap.size w w' :=
 (set_same m r A c ys w h hy hc hlen).mono fun e w' ⟨e1, hb⟩ => ⟨by rw [e1, decB_true he], hb⟩
theorem within_p (p : Bool) (m n : Option Nat) (r s : List Nd) (w : World) (h : SetO w m r) (h2 : SetO w n s) (hp : decB (∀ x ∈ r, x ∈ s) = p) :
  Calls Tryd.prog 23 #[.agg #[.map m], .agg #[.map n]] w fun e w' => e = .returned (.bool p) ∧ Below w.heap.size w w' :=
 (set_Within m n r s w h h2).mono fun e w' ⟨e1, hb⟩ => ⟨by rw [e1, hp], hb⟩
theorem has_q (q : Bool) (m : Option Nat) (r : List Nd) (x : Nd) (w : World) (h : SetO w m r) (hx : ndW x) (hq : decB (x ∈ r) = q) :
  Calls Tryd.prog 25 #[.agg #[.map m], .agg #[.int .i64 x.f0, .int .i64 x.f1, .string x.f2]] w fun e w' => e = .returned (.bool q) ∧ Below w.heap.size w w' :=
 (set_Has m r x w h hx).mono fun e w' ⟨e1, hb⟩ => ⟨by rw [e1, hq], hb⟩
theorem all_take (X Y : List Nd) {i : Nat} (h : i < X.length) : decB (∀ z ∈ X.take (i + 1), z ∈ Y) = (decB (∀ z ∈ X.take i, z ∈ Y) && decB (X[i] ∈ Y)) := by
 rw [List.take_succ_eq_append_getElem h]
 by_cases h1 : ∀ z ∈ X.take i, z ∈ Y
 ·rw [decB_true h1, Bool.true_and]
  by_cases h2 : X[i] ∈ Y
  ·rw [decB_true h2]; exact decB_true (fun z hz => (List.mem_append.mp hz).elim (h1 z) (fun e => by rw [List.mem_singleton.mp e]; exact h2))
  ·rw [decB_false h2]; exact decB_false (fun h3 => h2 (h3 _ (List.mem_append_right _ (List.mem_singleton_self _))))
 ·rw [decB_false h1, Bool.false_and]; exact decB_false (fun h3 => h1 (fun z hz => h3 z (List.mem_append_left _ hz)))
def lawSets.T23 : Bool × List (List Nat × List Nat) := (true, [([], []), ([], []), ([0, 1], [0, 1]), ([], []), ([2, 3, 2], [2, 3]), ([4, 4], [4]), ([5], [5]), ([5], [5]), ([6, 7, 5, 5], [5, 6, 7]), ([5], [5]), ([5], [5]), ([10, 8, 5], [5, 10]), ([9, 11, 11, 5], [5, 9, 11]), ([8, 12, 12, 5], [5, 8, 12]), ([5, 13], [5, 13]), ([14, 13], [14]), ([15], [15]), ([15], [15]), ([16, 17, 15, 15], [15, 16, 17]), ([15], [15]), ([18, 19, 15], [15, 18, 19]), ([15, 20], [15, 20]), ([21, 18], [21]), ([22], [22]), ([22], [22]), ([23, 24, 22, 22], [22, 23, 24]), ([22], [22]), ([25, 26, 25, 22], [22, 25, 26]), ([22, 27], [22, 27]), ([28, 27], [28]), ([29], [29]), ([29], [29]), ([30, 31, 29, 29], [29, 30, 31]), ([29], [29]), ([29], [29]), ([34, 32, 29], [29, 34]), ([33, 35, 35, 29], [29, 33, 35]), ([32, 36, 29], [29, 32, 36]), ([29, 37], [29, 37]), ([38, 36], [38]), ([39], [39]), ([39], [39]), ([40, 41, 39, 39], [39, 40, 41]), ([39, 42], [39, 42]), ([43, 42], [43]), ([44], [44]), ([44], [44]), ([45, 46, 44, 44], [44, 45, 46]), ([44, 47], [44, 47]), ([48, 47], [48]), ([49], [49]), ([50, 49, 49], [49, 50]), ([51, 49], [49, 51]), ([49, 52], [49, 52]), ([53, 51], [53]), ([54], [54]), ([54], [54]), ([55, 56, 54, 54], [54, 55, 56]), ([57, 54], [54, 57]), ([54, 58], [54, 58]), ([59, 57], [59]), ([60], [60]), ([60], [60]), ([61, 62, 60, 60], [60, 61, 62]), ([60, 63], [60, 63]), ([64, 63], [64]), ([65], [65]), ([65], [65]), ([66, 67, 65, 65], [65, 66, 67]), ([65], [65]), ([68, 69, 68, 65], [65, 68, 69]), ([65, 70], [65, 70]), ([71, 70], [71]), ([72], [72]), ([73, 72, 72], [72, 73]), ([74, 72], [72, 74]), ([75, 72], [72, 75]), ([72, 76], [72, 76]), ([77, 74, 0, 1, 2, 3, 4, 5, 6, 7, 8, 9, 10, 11, 12, 13, 14, 15, 16, 17, 18, 19, 20, 21, 22, 23, 24, 25, 26, 27, 28, 29, 30, 31, 32, 33, 34, 35, 36, 37, 38, 39, 40, 41, 42, 43, 44, 45, 46, 47, 48, 49, 50, 51, 52, 53, 54, 55, 56, 57, 58, 59, 60, 61, 62, 63, 64, 65, 66, 67, 68, 69, 70, 71, 72, 73, 74, 75, 76, 77], [77])])
def lawSets.B23 : List Nat := [0, 0, 3, 0, 15, 31, 63, 63, 255, 63, 63, 1535, 4095, 8191, 16383, 32767, 65535, 65535, 262143, 65535, 1048575, 2097151, 4194303, 8388607, 8388607, 33554431, 8388607, 134217727, 268435455, 536870911, 1073741823, 1073741823, 4294967295, 1073741823, 1073741823, 25769803775, 68719476735, 137438953471, 274877906943, 549755813887, 1099511627775, 1099511627775, 4398046511103, 8796093022207, 17592186044415, 35184372088831, 35184372088831, 140737488355327, 281474976710655, 562949953421311, 1125899906842623, 2251799813685247, 4503599627370495, 9007199254740991, 18014398509481983, 36028797018963967, 36028797018963967, 144115188075855871, 288230376151711743, 576460752303423487, 1152921504606846975, 2305843009213693951, 2305843009213693951, 9223372036854775807, 18446744073709551615, 36893488147419103231, 73786976294838206463, 73786976294838206463, 295147905179352825855, 73786976294838206463, 1180591620717411303423, 2361183241434822606847, 4722366482869645213695, 9444732965739290427391, 18889465931478580854783, 37778931862957161709567, 75557863725914323419135, 151115727451828646838271, 302231454903657293676543]
theorem lawSets.tab23 : rtab .any (opsOf Tryd.f5 23) = lawSets.T23 := by kernel_rfl
theorem lawSets.bits23 : waitsOk lawSets.T23.2 lawSets.B23 = true := by kernel_rfl
set_option maxRecDepth 100000 in
set_option maxHeartbeats 16000000 in
theorem truantlaw18_NodeSets.calls (k : Nat) (A0 : Option Addr) (c0 : Nat) (l0 : List (S24)) (A1 : Option Addr) (c1 : Nat) (l1 : List (S24)) (a2_0 : Int) (a2_1 : Int) (a2_2 : ByteArray) (a3 : ByteArray) (r : Bool) (w : World) (hr0 : Kd.C k24 w A0 l0.length l0) (hc0 : l0.length ≤ c0) (hr1 : Kd.C k24 w A1 l1.length l1) (hc1 : l1.length ≤ c1) (h : truantlaw18_NodeSets.f k l0 l1 a2_0 a2_1 a2_2 a3 = some r) (hG : Glob w := by first | assumption | (refine Glob.below (by assumption) ?_; repeat (first | with_reducible exact (Aside0.out (by assumption)) | (refine below_set ?_ (Aside0.out (by assumption))) | (with_reducible first | apply below_alloc | apply pw_below_drewN | apply below_drew1) | exact (Aside0.out (by assumption))))) :
  Calls Tryd.prog 5 #[.slice A0 l0.length c0, .slice A1 l1.length c1, .agg #[.int .i64 a2_0, .int .i64 a2_1, .string a2_2], .string a3] w fun e w' => e = .returned (.bool r) ∧ Below w.heap.size w w' := by
 have hwf : ((∀ x ∈ l0, ndW x) ∧ (∀ x ∈ l1, ndW x) ∧ ndW ⟨a2_0, a2_1, a2_2⟩) ∧ r = true := by
  unfold truantlaw18_NodeSets.f at h
  by_cases hp : (∀ x ∈ l0, ndW x) ∧ (∀ x ∈ l1, ndW x) ∧ ndW ⟨a2_0, a2_1, a2_2⟩
  ·rw [decB_true hp, if_pos rfl] at h; exact ⟨hp, (Option.some.inj h).symm⟩
  ·rw [decB_false hp, if_neg (by decide)] at h; cases h
 obtain ⟨⟨hw0, hw1, hwn⟩, rfl⟩ := hwf
 clear h
 obtain ⟨n0, hn0⟩ : ∃ z, z = a2_0 := ⟨_, rfl⟩
 obtain ⟨n1, hn1⟩ : ∃ z, z = a2_1 := ⟨_, rfl⟩
 obtain ⟨n2, hn2⟩ : ∃ z, z = a2_2 := ⟨_, rfl⟩
 obtain ⟨typ, htyp⟩ : ∃ z, z = a3 := ⟨_, rfl⟩
 rw [← hn0, ← hn1, ← hn2] at hwn ⊢
 rw [← htyp]
 clear hn0 hn1 hn2 htyp
 have hbx : Below w.heap.size w (w.alloc (.cells #[.int .i64 n0, .int .i64 n1, .string n2] 24)) := below_alloc (Below.refl _ _) _
 have HG := Aside0.mk (hG.below hbx)
 have HB := Aside0.mk hbx
 have HL0 := Aside0.mk (Kd.C_below hr0 hbx); have HL1 := Aside0.mk (Kd.C_below hr1 hbx)
 have HC0 := Aside0.mk hc0; have HC1 := Aside0.mk hc1; have HW0 := Aside0.mk hw0; have HW1 := Aside0.mk hw1; have HWN := Aside0.mk hwn
 have H6 : Aside0 ((w.alloc (.cells #[.int .i64 n0, .int .i64 n1, .string n2] 24)).heap[w.heap.size]? = some (.cells #[.int .i64 n0, .int .i64 n1, .string n2] 24 (0, 0))) := ⟨blk_new _ _⟩
 clear hr0 hr1 hc0 hc1 hw0 hw1 hwn hG hbx
 go_enter Tryd.func5, Tryd.ntmps5
 go_upto_region 1 with (fail)
 generalize w.alloc (.cells #[.int .i64 n0, .int .i64 n1, .string n2] 24) = w1 at HG HB HL0 HL1 H6 ⊢
 obtain ⟨g6, hg6⟩ : ∃ g, g = w.heap.size := ⟨_, rfl⟩
 rw [← hg6] at H6 ⊢
 clear hg6
 go_wp2_with fail
 refine (truantlaw18_awake.calls true w1 rfl HG.out).mono ?_
 rintro e w2 ⟨rfl, hb⟩
 have HB2 := Aside0.mk (below_step HB.out hb); have HL02 := Aside0.mk (Kd.C_below HL0.out hb); have HL12 := Aside0.mk (Kd.C_below HL1.out hb); have H62 := Aside0.mk (blk_below H6.out hb)
 clear hb HG HB HL0 HL1 H6
 by_cases q1 : (l0.length : Int) > 40
 ·have b1 : decide ((l0.length : Int) > 40) = true := decide_eq_true q1
  clear q1
  go_wp2
  go_ret
  exact ⟨rfl, HB2.out⟩
 have b1 : decide ((l0.length : Int) > 40) = false := decide_eq_false q1
 by_cases q2 : (l1.length : Int) > 40
 ·have b2 : decide ((l1.length : Int) > 40) = true := decide_eq_true q2
  clear q1 q2
  go_wp2
  go_ret
  exact ⟨rfl, HB2.out⟩
 have b2 : decide ((l1.length : Int) > 40) = false := decide_eq_false q2
 by_cases q3 : (typ.size : Int) > 100
 ·have b3 : decide ((typ.size : Int) > 100) = true := decide_eq_true q3
  clear q1 q2 q3
  go_wp2
  go_ret
  exact ⟨rfl, HB2.out⟩
 have b3 : decide ((typ.size : Int) > 100) = false := decide_eq_false q3
 have HM0 : Aside0 (l0.length ≤ 40) := ⟨by omega⟩
 have HM1 : Aside0 (l1.length ≤ 40) := ⟨by omega⟩
 obtain ⟨kx, hkx⟩ := row_ev l0 (by omega)
 have hkx := hkx kx (Nat.le_refl _)
 obtain ⟨ky, hky⟩ := row_ev l1 (by omega)
 have hky := hky ky (Nat.le_refl _)
 obtain ⟨X, hX⟩ : ∃ z, z = ofL l0 := ⟨_, rfl⟩
 obtain ⟨Y, hY⟩ : ∃ z, z = ofL l1 := ⟨_, rfl⟩
 have HLX : Aside0 (X.length ≤ 40) := ⟨by rw [hX]; have := ofL_le l0; omega⟩
 have HLY : Aside0 (Y.length ≤ 40) := ⟨by rw [hY]; have := ofL_le l1; omega⟩
 have HUX : Aside0 (Up X) := ⟨by rw [hX]; exact ofL_up l0⟩
 have HEX := Aside0.mk hX; have HEY := Aside0.mk hY
 rw [← hX] at hkx
 rw [← hY] at hky
 obtain ⟨xs, hxs⟩ : ∃ z, z = X.map toR := ⟨_, rfl⟩
 obtain ⟨ys, hys⟩ : ∃ z, z = Y.map toR := ⟨_, rfl⟩
 rw [← hxs] at hkx
 rw [← hys] at hky
 have HXe := Aside0.mk hxs; have HYe := Aside0.mk hys
 have HXL : Aside0 (xs.length = X.length) := ⟨by rw [hxs, List.length_map]⟩
 have HYL : Aside0 (ys.length = Y.length) := ⟨by rw [hys, List.length_map]⟩
 have HKX := Aside0.mk hkx; have HKY := Aside0.mk hky
 clear q1 q2 q3 hX hY hxs hys hkx hky
 go_upto_region 5 with (fail)
 clear b1 b2 b3
 go_wp2_with fail
 refine (truantlaw18_row.calls kx A0 c0 l0 xs w2 HL02.out HC0.out HKX.out).mono ?_
 rintro e w3 ⟨v3, rfl, hr3, hb⟩
 obtain ⟨A3, c3, e3⟩ := Kd.R_slice hr3
 subst e3
 have HX := Aside0.mk (Kd.R_reads' hr3).2.2; have HXc := Aside0.mk (Kd.R_reads' hr3).2.1
 have HB := Aside0.mk (below_step HB2.out hb); have HL0 := Aside0.mk (Kd.C_below HL02.out hb); have HL1 := Aside0.mk (Kd.C_below HL12.out hb); have H6 := Aside0.mk (blk_below H62.out hb)
 clear hr3 hb HB2 HL02 HL12 H62 HKX
 go_wp2_with fail
 refine (truantlaw18_row.calls ky A1 c1 l1 ys w3 HL1.out HC1.out HKY.out).mono ?_
 rintro e w4 ⟨v4, rfl, hr4, hb⟩
 obtain ⟨A4, c4, e4⟩ := Kd.R_slice hr4
 subst e4
 have HY := Aside0.mk (Kd.R_reads' hr4).2.2; have HYc := Aside0.mk (Kd.R_reads' hr4).2.1
 have HX := Aside0.mk (Kd.C_below HX.out hb); have HB := Aside0.mk (below_step HB.out hb); have HL0 := Aside0.mk (Kd.C_below HL0.out hb); have HL1 := Aside0.mk (Kd.C_below HL1.out hb); have H6 := Aside0.mk (blk_below H6.out hb)
 clear hr4 hb HKY
 go_wp2_with fail
 refine (node_Of A0 c0 l0 w4 HL0.out HC0.out HW0.out (by have := HM0.out; omega)).mono ?_
 rintro e w5 ⟨b1, rfl, _, hs, hb⟩
 rw [← HEX.out] at hs
 have hbl : Below w4.heap.size w4 (w5.alloc (.cells #[.map (some b1)] 50)) := below_alloc hb _
 have HX := Aside0.mk (Kd.C_below HX.out hbl); have HY := Aside0.mk (Kd.C_below HY.out hbl); have HB := Aside0.mk (below_step HB.out hbl); have HL1 := Aside0.mk (Kd.C_below HL1.out hbl); have H6 := Aside0.mk (blk_below H6.out hbl)
 have HS : Aside0 (SetO (w5.alloc (.cells #[.map (some b1)] 50)) (some b1) X) := ⟨SetO.alloc (m := some b1) hs _⟩
 have G11 : Aside0 ((w5.alloc (.cells #[.map (some b1)] 50)).heap[w5.heap.size]? = some (.cells #[.map (some b1)] 50 (0, 0))) := ⟨blk_new _ _⟩
 clear hs hb hbl HL0
 go_upto_region 8 with (fail)
 generalize w5.alloc (.cells #[.map (some b1)] 50) = w6 at HX HY HB HL1 H6 HS G11 ⊢
 generalize w5.heap.size = g11 at G11 ⊢
 go_wp2_with fail
 refine (node_Of A1 c1 l1 w6 HL1.out HC1.out HW1.out (by have := HM1.out; omega)).mono ?_
 rintro e w7 ⟨b2, rfl, _, hs, hb⟩
 rw [← HEY.out] at hs
 have hbl : Below w6.heap.size w6 (w7.alloc (.cells #[.map (some b2)] 50)) := below_alloc hb _
 have HX := Aside0.mk (Kd.C_below HX.out hbl); have HY := Aside0.mk (Kd.C_below HY.out hbl); have HB := Aside0.mk (below_step HB.out hbl); have H6 := Aside0.mk (blk_below H6.out hbl); have HS := Aside0.mk (HS.out.below hbl); have G11 := Aside0.mk (blk_below G11.out hbl)
 have HT : Aside0 (SetO (w7.alloc (.cells #[.map (some b2)] 50)) (some b2) Y) := ⟨SetO.alloc (m := some b2) hs _⟩
 have G12 : Aside0 ((w7.alloc (.cells #[.map (some b2)] 50)).heap[w7.heap.size]? = some (.cells #[.map (some b2)] 50 (0, 0))) := ⟨blk_new _ _⟩
 clear hs hb hbl HL1
 go_upto_region 9 with (fail)
 generalize w7.alloc (.cells #[.map (some b2)] 50) = w8 at HX HY HB H6 HS HT G11 G12 ⊢
 generalize w7.heap.size = g12 at G12 ⊢
 go_wp2_with ((with_reducible refine gate_dst (N := 43) rfl ?_); refine Kd.R_lit k30 _ 30 ?hg (N := 43) ?hd (xs := ([] : List Rd)) (inner := []) (ok := fun _ => True) (okp := fun _ => True) ?hr ?hp (fun _ hk => hk) trivial (Below.refl _ _) (Nat.le_refl _) (by simp) ?_; (case hd => rfl); (case hg => rfl); (case hr => first | (go_simp; done) | (go_simp; rfl)); (case hp => exact (Reps.none _ _)); intro v43 w9 ho9 hb9 hg_ hnew_; clear hg_ hnew_; have HO9 := Aside0.mk ho9; have HW9 := Aside0.mk hb9; clear ho9 hb9)
 have HXB : Aside0 (xs.length ≤ 40) := ⟨by rw [HXL.out]; exact HLX.out⟩
 have HYB : Aside0 (ys.length ≤ 40) := ⟨by rw [HYL.out]; exact HLY.out⟩
 have hp0 : decB (∀ z ∈ X.take 0, z ∈ Y) = true := decB_true (fun z hz => by simp at hz)
 have HP0 := Aside0.mk hp0
 clear hp0
 go_loopw [14, 15, 16] (fun v14 v15 v16 wr => ∃ (i : Nat) (p : Bool) (ts : List Rd), v16 = .int .i64 i ∧ i ≤ xs.length ∧ v14 = .bool p ∧ Aside0 (decB (∀ z ∈ X.take i, z ∈ Y) = p) ∧ Aside0 (ts = (typedL typ (X.take i)).map toR) ∧ Aside0 (k30.R 30 wr w8.heap.size (fun _ => True) v15 ts) ∧ Aside0 (Below w8.heap.size w8 wr)) (fun _ _ v16 _ => xs.length - (intOf v16).toNat)
 case atStart => exact ⟨0, true, [], rfl, Nat.zero_le _, rfl, HP0, ⟨rfl⟩, HO9, HW9⟩
 case round =>
  clear HO9 HW9 HP0
  obtain ⟨i, p, ts, rfl, hi, rfl, HP, HTS, HO, HW⟩ := hrel
  have hnx : xs.length ≤ 1000 := by have := HXB.out; omega
  by_cases hlt : i < xs.length
  ·have hlr : i < X.length := by rw [← HXL.out]; exact hlt
   obtain ⟨ad, e, _⟩ := at_T30 HX.out (i : Int) (by omega) (by omega)
   subst e
   obtain ⟨z, ez⟩ : ∃ z, z = X[i] := ⟨_, rfl⟩
   have hrd : rd_T30 xs (i : Int) = toR z := by rw [ez, HXe.out]; unfold rd_T30; rw [Int.toNat_natCast]; simp [hlr]
   have HCX : Aside0 (∀ w', Below w8.heap.size w8 w' → w'.cell? (ad.add (i * 3)) = some (.int .i64 z.f0) ∧ w'.cell? ⟨(ad.add (i * 3)).block, (ad.add (i * 3)).off + 1, none⟩ = some (.int .i64 z.f1) ∧ w'.cell? ⟨(ad.add (i * 3)).block, (ad.add (i * 3)).off + 2, none⟩ = some (.string z.f2)) := ⟨fun w' hb => by
    obtain ⟨ad', e, h0, h1, h2⟩ := at_T30 (Kd.C_below HX.out hb) (i : Int) (by omega) (by omega)
    cases e
    rw [hrd] at h0 h1 h2
    exact ⟨h0, h1, h2⟩⟩
   have HALL : Aside0 (decB (∀ z ∈ X.take (i + 1), z ∈ Y) = (p && decB (z ∈ Y))) := ⟨by rw [all_take X Y hlr, HP.out, ez]⟩
   have HTN : Aside0 (typedL typ (X.take (i + 1)) = if z.f2 = typ then typedL typ (X.take i) ++ [z] else typedL typ (X.take i)) := ⟨by rw [List.take_succ_eq_append_getElem hlr, typedL_snoc, ez]⟩
   have HTL : Aside0 (ts.length ≤ 40) := ⟨by rw [HTS.out, List.length_map]; have h1 : (typedL typ (X.take i)).length ≤ (X.take i).length := List.length_filter_le _ _; have := HLX.out; rw [List.length_take] at h1; omega⟩
   obtain ⟨kz, hkz⟩ := has_ev z Y (by have := HLY.out; omega)
   have hkz := hkz kz (Nat.le_refl _)
   rw [← HYe.out] at hkz
   have HKZ := Aside0.mk hkz
   clear hrd ez hlr hkz
   obtain ⟨q, hq⟩ : ∃ q, q = decB (z ∈ Y) := ⟨_, rfl⟩
   rw [← hq] at HALL HKZ
   clear hq
   cases p with
   | true =>
    obtain ⟨hx0, hx1, hx2⟩ := HCX.out _ HW.out
    go_wp2_with fail
    refine (truantref18_Has.calls kz A4 c4 ys z.f0 z.f1 z.f2 q _ (Kd.C_below HY.out HW.out) HYc.out HKZ.out).mono ?_
    rintro e w10 ⟨rfl, hb⟩
    have HW2 := Aside0.mk (below_step HW.out hb); have HO2 := Aside0.mk (Kd.R_below HO.out hb)
    clear hx0 hx1 hx2 hb
    obtain ⟨hx0, hx1, hx2⟩ := HCX.out _ HW2.out
    have HALL2 : Aside0 (decB (∀ z ∈ X.take (i + 1), z ∈ Y) = q) := ⟨by rw [HALL.out, Bool.true_and]⟩
    by_cases ht : z.f2 = typ
    ·have hc : (z.f2.toList == typ.toList) = true := by rw [ht]; exact beq_self_eq_true _
     have HN : Aside0 (ts ++ [toR z] = (typedL typ (X.take (i + 1))).map toR) := ⟨by rw [HTN.out, if_pos ht, HTS.out]; simp⟩
     clear ht
     go_wp2_with ((with_reducible refine gate_builtin (b := .append) (xs := #[.tmp 66, .tmp 71]) rfl ?_); at_builtin; refine Kd.R_append k30 (w0 := w8) w8.heap.size rfl (.tmp 66) (.tmp 71) 46 30 (.agg #[.int .i64 0, .int .i64 0, .string ⟨#[]⟩]) 32 rfl Tryd.underlying46 infoRd rfl (by decide) (by decide) _ ts (toR z) [.int .i64 z.f0, .int .i64 z.f1, .string z.f2] (fun _ => True) (fun _ => False) rfl rfl ?aP (fun _ hk => hk.elim) (fun _ _ => trivial) ?aO ?aB ?aS ?aL ?_; (case aP => exact k30_mkM _ _ _ (toR z)); (case aB => exact HW2.out); (case aO => exact HO2.out); (case aS => exact HW2.out.size); (case aL => have := HTL.out; omega); intro v20 w20 ho20 hb20 hg_ hat_; clear hg_ hat_; have HO20 := Aside0.mk ho20; have HW20 := Aside0.mk hb20; clear ho20 hb20)
     go_roundw
     case rel => exact ⟨i + 1, q, ts ++ [toR z], by simp, by omega, rfl, HALL2, HN, HO20, HW20⟩
     case measure => show xs.length - ((i : Int) + 1).toNat < xs.length - (i : Int).toNat; omega
    ·have hc : (z.f2.toList == typ.toList) = false := beq_eq_false_iff_ne.mpr (fun e => ht (bytes_eq e))
     have HN : Aside0 (ts = (typedL typ (X.take (i + 1))).map toR) := ⟨by rw [HTN.out, if_neg ht, HTS.out]⟩
     clear ht
     go_wp2
     go_roundw
     case rel => exact ⟨i + 1, q, ts, by simp, by omega, rfl, HALL2, HN, HO2, HW2⟩
     case measure => show xs.length - ((i : Int) + 1).toNat < xs.length - (i : Int).toNat; omega
   | false =>
    obtain ⟨hx0, hx1, hx2⟩ := HCX.out _ HW.out
    have HALL2 : Aside0 (decB (∀ z ∈ X.take (i + 1), z ∈ Y) = false) := ⟨by rw [HALL.out, Bool.false_and]⟩
    by_cases ht : z.f2 = typ
    ·have hc : (z.f2.toList == typ.toList) = true := by rw [ht]; exact beq_self_eq_true _
     have HN : Aside0 (ts ++ [toR z] = (typedL typ (X.take (i + 1))).map toR) := ⟨by rw [HTN.out, if_pos ht, HTS.out]; simp⟩
     clear ht
     go_wp2_with ((with_reducible refine gate_builtin (b := .append) (xs := #[.tmp 66, .tmp 71]) rfl ?_); at_builtin; refine Kd.R_append k30 (w0 := w8) w8.heap.size rfl (.tmp 66) (.tmp 71) 46 30 (.agg #[.int .i64 0, .int .i64 0, .string ⟨#[]⟩]) 32 rfl Tryd.underlying46 infoRd rfl (by decide) (by decide) _ ts (toR z) [.int .i64 z.f0, .int .i64 z.f1, .string z.f2] (fun _ => True) (fun _ => False) rfl rfl ?aP (fun _ hk => hk.elim) (fun _ _ => trivial) ?aO ?aB ?aS ?aL ?_; (case aP => exact k30_mkM _ _ _ (toR z)); (case aB => exact HW.out); (case aO => exact HO.out); (case aS => exact HW.out.size); (case aL => have := HTL.out; omega); intro v20 w20 ho20 hb20 hg_ hat_; clear hg_ hat_; have HO20 := Aside0.mk ho20; have HW20 := Aside0.mk hb20; clear ho20 hb20)
     go_roundw
     case rel => exact ⟨i + 1, false, ts ++ [toR z], by simp, by omega, rfl, HALL2, HN, HO20, HW20⟩
     case measure => show xs.length - ((i : Int) + 1).toNat < xs.length - (i : Int).toNat; omega
    ·have hc : (z.f2.toList == typ.toList) = false := beq_eq_false_iff_ne.mpr (fun e => ht (bytes_eq e))
     have HN : Aside0 (ts = (typedL typ (X.take (i + 1))).map toR) := ⟨by rw [HTN.out, if_neg ht, HTS.out]⟩
     clear ht
     go_wp2
     go_roundw
     case rel => exact ⟨i + 1, false, ts, by simp, by omega, rfl, HALL2, HN, HO, HW⟩
     case measure => show xs.length - ((i : Int) + 1).toNat < xs.length - (i : Int).toNat; omega
  ·have e : i = xs.length := by omega
   subst e
   have HP1 : Aside0 (decB (∀ z ∈ X, z ∈ Y) = p) := ⟨by have := HP.out; rwa [HXL.out, List.take_length] at this⟩
   have HTYe : Aside0 (ts = (typedL typ X).map toR) := ⟨by have := HTS.out; rwa [HXL.out, List.take_length] at this⟩
   have HP := HP1
   obtain ⟨A6, c6, e6⟩ := Kd.R_slice HO.out
   subst e6
   have HTY := Aside0.mk (Kd.R_reads' HO.out).2.2; have HTYc := Aside0.mk (Kd.R_reads' HO.out).2.1
   have HX := Aside0.mk (Kd.C_below HX.out HW.out); have HY := Aside0.mk (Kd.C_below HY.out HW.out); have HB := Aside0.mk (below_step HB.out HW.out); have H6 := Aside0.mk (blk_below H6.out HW.out); have HS := Aside0.mk (HS.out.below HW.out); have HT := Aside0.mk (HT.out.below HW.out); have G11 := Aside0.mk (blk_below G11.out HW.out); have G12 := Aside0.mk (blk_below G12.out HW.out)
   clear HO HW HTS HP1 hi hlt
   obtain ⟨wb, hwb⟩ : ∃ z, z = wr := ⟨_, rfl⟩
   rw [← hwb] at HTY HX HY HB H6 HS HT G11 G12 ⊢
   clear hwb
   go_upto_region 19 with (fail)
   go_loopw [13, 17] (fun v13 v17 wq => ∃ (i : Nat) (A5 : Option Addr) (c5 : Nat) (zs : List Rd), v17 = .int .i64 i ∧ i ≤ ys.length ∧ v13 = .slice A5 zs.length c5 ∧ Aside0 (zs = ((Y.take i).foldl addR X).map toR) ∧ Aside0 (zs.length ≤ c5) ∧ Aside0 (Kd.C k30 wq A5 zs.length zs) ∧ Aside0 (Below wb.heap.size wb wq)) (fun _ v17 _ => ys.length - (intOf v17).toNat)
   case atStart => exact ⟨0, A3, c3, xs, rfl, Nat.zero_le _, rfl, ⟨HXe.out⟩, HXc, HX, ⟨Below.refl _ _⟩⟩
   case round =>
    obtain ⟨i, A5, c5, zs, rfl, hi, rfl, HZe, HZc, HZ, HW⟩ := hrel
    have hny : ys.length ≤ 1000 := by have := HYB.out; omega
    by_cases hlt : i < ys.length
    ·have hlr : i < Y.length := by rw [← HYL.out]; exact hlt
     obtain ⟨ad, e, _⟩ := at_T30 HY.out (i : Int) (by omega) (by omega)
     subst e
     obtain ⟨z, ez⟩ : ∃ z, z = Y[i] := ⟨_, rfl⟩
     have hrd : rd_T30 ys (i : Int) = toR z := by rw [ez, HYe.out]; unfold rd_T30; rw [Int.toNat_natCast]; simp [hlr]
     obtain ⟨ad', e, h0, h1, h2⟩ := at_T30 (Kd.C_below HY.out HW.out) (i : Int) (by omega) (by omega)
     cases e
     rw [hrd] at h0 h1 h2
     simp only [Int.toNat_natCast] at h0 h1 h2
     have HFN : Aside0 ((Y.take (i + 1)).foldl addR X = addR ((Y.take i).foldl addR X) z) := ⟨by rw [List.take_succ_eq_append_getElem hlr, List.foldl_append, ez]; rfl⟩
     have HFU : Aside0 (Up ((Y.take i).foldl addR X)) := ⟨foldl_addR_up _ _ HUX.out⟩
     have HFL : Aside0 (((Y.take i).foldl addR X).length ≤ 100) := ⟨by have h3 := foldl_le (Y.take i) X; have := HLX.out; have := HLY.out; rw [List.length_take] at h3; omega⟩
     clear hrd ez hlr
     go_wp2_with fail
     refine (ref_Add A5 c5 zs ((Y.take i).foldl addR X) z _ HZe.out HZ.out HZc.out HFU.out (by have := HFL.out; omega)).mono ?_
     rintro e w20 ⟨A20, c20, zs2, HE20, rfl, hc20, hC20, hb⟩
     have HW2 := Aside0.mk (below_step HW.out hb); have HC20 := Aside0.mk hC20; have Hc20 := Aside0.mk hc20
     have HE21 : Aside0 (zs2 = ((Y.take (i + 1)).foldl addR X).map toR) := ⟨by rw [HFN.out]; exact HE20.out⟩
     clear h0 h1 h2 hb hC20 hc20 HE20
     go_wp2
     go_roundw
     case rel => exact ⟨i + 1, A20, c20, zs2, by simp, by omega, rfl, HE21, Hc20, HC20, HW2⟩
     case measure => show ys.length - ((i : Int) + 1).toNat < ys.length - (i : Int).toNat; omega
    ·have e : i = ys.length := by omega
     subst e
     have HZ1 : Aside0 (zs = (Y.foldl addR X).map toR) := ⟨by have := HZe.out; rwa [HYL.out, List.take_length] at this⟩
     have HZe := HZ1
     have hbl : Below wb.heap.size wb (wr.alloc (.cells #[.map none] 50)) := below_alloc HW.out _
     have HX := Aside0.mk (Kd.C_below HX.out hbl); have HY := Aside0.mk (Kd.C_below HY.out hbl); have HB := Aside0.mk (below_step HB.out hbl); have H6 := Aside0.mk (blk_below H6.out hbl); have HS := Aside0.mk (HS.out.below hbl); have HT := Aside0.mk (HT.out.below hbl); have G11 := Aside0.mk (blk_below G11.out hbl); have G12 := Aside0.mk (blk_below G12.out hbl); have HTY := Aside0.mk (Kd.C_below HTY.out hbl); have HZ := Aside0.mk (Kd.C_below HZ.out (below_alloc (Below.refl _ _) (.cells #[.map none] 50)))
     have G18 : Aside0 ((wr.alloc (.cells #[.map none] 50)).heap[wr.heap.size]? = some (.cells #[.map none] 50 (0, 0))) := ⟨blk_new _ _⟩
     clear hbl HW HZ1 hi hlt
     obtain ⟨kh, hkh⟩ := has_ev ⟨n0, n1, n2⟩ X (by have := HLX.out; omega)
     have hkh := hkh kh (Nat.le_refl _)
     rw [← HXe.out] at hkh
     obtain ⟨q, hq⟩ : ∃ q, decB ((⟨n0, n1, n2⟩ : Nd) ∈ X) = q := ⟨_, rfl⟩
     rw [hq] at hkh
     have HKH : Aside0 (truantref18_Has.f kh xs n0 n1 n2 = some q) := ⟨hkh⟩
     have HQ := Aside0.mk hq
     have HJX : Aside0 ((X.foldl addR []).map toR = xs) := ⟨by rw [HXe.out, show X.foldl addR [] = X from ofL_eq HUX.out (fun _ => Iff.rfl)]⟩
     clear hkh hq
     go_upto_region 23 with (fail)
     generalize wr.alloc (.cells #[.map none] 50) = ws at HX HY HB H6 HS HT G11 G12 HTY HZ G18 ⊢
     generalize wr.heap.size = g18 at G18 ⊢
     refine start_ (n := 79) (S := fun w' => Below ws.heap.size ws w') (ds := []) (tf 0 79) (by kernel_rfl) rfl rfl ((below_drew1 (Below.refl _ _))) (fun hHeld => ?_)
     refine with_tabW lawSets.tab23 lawSets.bits23 (fun HT_ HW_ => ?_)
     refine pure_ (i := 3) (N := some 88) (v := ?_) (a' := ?_) #[false, false, false, true, false, false, false, false, false, false, false, false, false, false, false, false, false, false, false, false, false, false, false, false, false, false, false, false, false, false, false, false, false, false, false, false, false, false, false, false, false, false, false, false, false, false, false, false, false, false, false, false, false, false, false, false, false, false, false, false, false, false, false, false, false, false, false, false, false, false, false, false, false, false, false, false, false, false, false] rfl rfl (any_of HT_.out (by kernel_rfl)) (fun _ _ _ h => h) (Or.inl ⟨by rfl, ?_⟩) ?_ ?_
     rotate_left
     ·intro w'
      go_simp
      with_reducible rfl
     rotate_left
     ·simp only [Act.put, List.setIfInBounds_toArray, List.set_cons_zero, List.set_cons_succ, i64_w, i32_w]
      rfl
     refine take_ (i := 0) (N := some 85) (v := ?_) (a' := ?_) #[true, false, false, true, false, false, false, false, false, false, false, false, false, false, false, false, false, false, false, false, false, false, false, false, false, false, false, false, false, false, false, false, false, false, false, false, false, false, false, false, false, false, false, false, false, false, false, false, false, false, false, false, false, false, false, false, false, false, false, false, false, false, false, false, false, false, false, false, false, false, false, false, false, false, false, false, false, false, false] rfl rfl (take_ofW HT_.out HW_.out (by kernel_rfl)) (fun _ _ _ h => h) (Or.inl ⟨by rfl, ?_⟩) hHeld ?_ ?_
     rotate_left
     ·intro w' s0
      obtain ⟨x0, _⟩ := bk1 (blk_below G11.out s0)
      go_simp
      with_reducible rfl
     rotate_left
     ·simp only [Act.put, List.setIfInBounds_toArray, List.set_cons_zero, List.set_cons_succ, i64_w, i32_w]
      rfl
     refine take_ (i := 1) (N := some 86) (v := ?_) (a' := ?_) #[true, true, false, true, false, false, false, false, false, false, false, false, false, false, false, false, false, false, false, false, false, false, false, false, false, false, false, false, false, false, false, false, false, false, false, false, false, false, false, false, false, false, false, false, false, false, false, false, false, false, false, false, false, false, false, false, false, false, false, false, false, false, false, false, false, false, false, false, false, false, false, false, false, false, false, false, false, false, false] rfl rfl (take_ofW HT_.out HW_.out (by kernel_rfl)) (fun _ _ _ h => h) (Or.inl ⟨by rfl, ?_⟩) hHeld ?_ ?_
     rotate_left
     ·intro w' s0
      obtain ⟨x0, _⟩ := bk1 (blk_below G12.out s0)
      go_simp
      with_reducible rfl
     rotate_left
     ·simp only [Act.put, List.setIfInBounds_toArray, List.set_cons_zero, List.set_cons_succ, i64_w, i32_w]
      rfl
     refine one_ (i := 2) (N := some 87) (tf 4 75) rfl rfl (one_of HT_.out (by kernel_rfl)) (by decide) (fun K hK => ?_)
     refine goes_ Tryd.func21 (by kernel_rfl) rfl #[.agg #[.map (some b1)], .agg #[.map (some b2)]] (by rfl) rfl rfl (by simp only [List.map_toArray, List.map_cons, List.map_nil]; rfl) ?_
     refine (set_Join (some b1) (some b2) X Y _ (HS.out.below hHeld) (HT.out.below hHeld) (by have := HLX.out; have := HLY.out; omega)).mono ?_
     rintro e w902 ⟨b22, rfl, _, hs22, hb⟩
     refine ⟨_, rfl, ?_⟩
     have HS22 := Aside0.mk hs22
     clear hs22
     refine hK.out _ _ (below_step hHeld hb) (fun hHeld => ?_)
     clear hK K
     refine norm_ (a' := ?_) ?_ ?_
     rotate_left
     ·show Act.put _ (some 87) _ = _
      simp only [Act.put, List.setIfInBounds_toArray, List.set_cons_zero, List.set_cons_succ, i64_w, i32_w]
      rfl
     refine one_ (i := 4) (N := some 89) (tf 5 74) rfl rfl (one_of HT_.out (by kernel_rfl)) (by decide) (fun K hK => ?_)
     refine goes_ Tryd.func20 (by kernel_rfl) rfl #[.agg #[.map (some b22)], .slice A5 zs.length c5] (by rfl) rfl rfl (by simp only [List.map_toArray, List.map_cons, List.map_nil]; rfl) ?_
     refine (same_yes (some b22) (Y.foldl addR X) A5 c5 zs _ HS22.out (Kd.C_below HZ.out hHeld) HZc.out (Nat.le_trans (foldl_le Y X) (by have := HLX.out; have := HLY.out; omega)) (HZe.out.symm)).mono ?_
     rintro e w904 ⟨rfl, hb⟩
     refine ⟨_, rfl, ?_⟩
     refine hK.out _ _ (below_step hHeld hb) (fun hHeld => ?_)
     clear hK K
     refine norm_ (a' := ?_) ?_ ?_
     rotate_left
     ·show Act.put _ (some 89) _ = _
      simp only [Act.put, List.setIfInBounds_toArray, List.set_cons_zero, List.set_cons_succ, i64_w, i32_w]
      rfl
     refine pure_ (i := 5) (N := some 90) (v := ?_) (a' := ?_) (tf 6 73) rfl rfl (any_of HT_.out (by kernel_rfl)) (fun _ _ _ h => h) (Or.inl ⟨by rfl, ?_⟩) ?_ ?_
     rotate_left
     ·intro w'
      go_simp
      with_reducible rfl
     rotate_left
     ·simp only [Act.put, List.setIfInBounds_toArray, List.set_cons_zero, List.set_cons_succ, i64_w, i32_w]
      rfl
     refine pure_ (i := 9) (N := some 94) (v := ?_) (a' := ?_) #[true, true, true, true, true, true, false, false, false, true, false, false, false, false, false, false, false, false, false, false, false, false, false, false, false, false, false, false, false, false, false, false, false, false, false, false, false, false, false, false, false, false, false, false, false, false, false, false, false, false, false, false, false, false, false, false, false, false, false, false, false, false, false, false, false, false, false, false, false, false, false, false, false, false, false, false, false, false, false] rfl rfl (any_of HT_.out (by kernel_rfl)) (fun _ _ _ h => h) (Or.inl ⟨by rfl, ?_⟩) ?_ ?_
     rotate_left
     ·intro w'
      go_simp
      with_reducible rfl
     rotate_left
     ·simp only [Act.put, List.setIfInBounds_toArray, List.set_cons_zero, List.set_cons_succ, i64_w, i32_w]
      rfl
     refine take_ (i := 6) (N := some 91) (v := ?_) (a' := ?_) #[true, true, true, true, true, true, true, false, false, true, false, false, false, false, false, false, false, false, false, false, false, false, false, false, false, false, false, false, false, false, false, false, false, false, false, false, false, false, false, false, false, false, false, false, false, false, false, false, false, false, false, false, false, false, false, false, false, false, false, false, false, false, false, false, false, false, false, false, false, false, false, false, false, false, false, false, false, false, false] rfl rfl (take_ofW HT_.out HW_.out (by kernel_rfl)) (fun _ _ _ h => h) (Or.inl ⟨by rfl, ?_⟩) hHeld ?_ ?_
     rotate_left
     ·intro w' s0
      obtain ⟨x0, _⟩ := bk1 (blk_below G11.out s0)
      go_simp
      with_reducible rfl
     rotate_left
     ·simp only [Act.put, List.setIfInBounds_toArray, List.set_cons_zero, List.set_cons_succ, i64_w, i32_w]
      rfl
     refine take_ (i := 7) (N := some 92) (v := ?_) (a' := ?_) #[true, true, true, true, true, true, true, true, false, true, false, false, false, false, false, false, false, false, false, false, false, false, false, false, false, false, false, false, false, false, false, false, false, false, false, false, false, false, false, false, false, false, false, false, false, false, false, false, false, false, false, false, false, false, false, false, false, false, false, false, false, false, false, false, false, false, false, false, false, false, false, false, false, false, false, false, false, false, false] rfl rfl (take_ofW HT_.out HW_.out (by kernel_rfl)) (fun _ _ _ h => h) (Or.inl ⟨by rfl, ?_⟩) hHeld ?_ ?_
     rotate_left
     ·intro w' s0
      obtain ⟨x0, x1, x2, _⟩ := bk3 (blk_below H6.out s0)
      go_simp
      with_reducible rfl
     rotate_left
     ·simp only [Act.put, List.setIfInBounds_toArray, List.set_cons_zero, List.set_cons_succ, i64_w, i32_w]
      rfl
     refine take_ (i := 10) (N := some 95) (v := ?_) (a' := ?_) #[true, true, true, true, true, true, true, true, false, true, true, false, false, false, false, false, false, false, false, false, false, false, false, false, false, false, false, false, false, false, false, false, false, false, false, false, false, false, false, false, false, false, false, false, false, false, false, false, false, false, false, false, false, false, false, false, false, false, false, false, false, false, false, false, false, false, false, false, false, false, false, false, false, false, false, false, false, false, false] rfl rfl (take_ofW HT_.out HW_.out (by kernel_rfl)) (fun _ _ _ h => h) (Or.inl ⟨by rfl, ?_⟩) hHeld ?_ ?_
     rotate_left
     ·intro w' s0
      obtain ⟨x0, x1, x2, _⟩ := bk3 (blk_below H6.out s0)
      go_simp
      with_reducible rfl
     rotate_left
     ·simp only [Act.put, List.setIfInBounds_toArray, List.set_cons_zero, List.set_cons_succ, i64_w, i32_w]
      rfl
     refine one_ (i := 8) (N := some 93) (tf 11 68) rfl rfl (one_of HT_.out (by kernel_rfl)) (by decide) (fun K hK => ?_)
     refine goes_ Tryd.func22 (by kernel_rfl) rfl #[.agg #[.map (some b1)], .agg #[.int .i64 n0, .int .i64 n1, .string n2]] (by rfl) rfl rfl (by simp only [List.map_toArray, List.map_cons, List.map_nil]; rfl) ?_
     refine (set_With (some b1) X ⟨n0, n1, n2⟩ _ (HS.out.below hHeld) HWN.out (by have := HLX.out; omega)).mono ?_
     rintro e w908 ⟨b28, rfl, _, hs28, hb⟩
     refine ⟨_, rfl, ?_⟩
     have HS28 := Aside0.mk hs28
     clear hs28
     refine hK.out _ _ (below_step hHeld hb) (fun hHeld => ?_)
     clear hK K
     refine norm_ (a' := ?_) ?_ ?_
     rotate_left
     ·show Act.put _ (some 93) _ = _
      simp only [Act.put, List.setIfInBounds_toArray, List.set_cons_zero, List.set_cons_succ, i64_w, i32_w]
      rfl
     refine one_ (i := 11) (N := some 96) (tf 12 67) rfl rfl (one_of HT_.out (by kernel_rfl)) (by decide) (fun K hK => ?_)
     refine goes_ Tryd.func9 (by kernel_rfl) rfl #[.agg #[.int .i64 n0, .int .i64 n1, .string n2]] (by rfl) rfl rfl (by simp only [List.map_toArray, List.map_cons, List.map_nil]; rfl) ?_
     refine (truantlaw18_form.calls _ _ _ _ _ _ _ rfl).mono ?_
     rintro e w911 ⟨rfl, hb⟩
     refine ⟨_, rfl, ?_⟩
     have HS28 := Aside0.mk (HS28.out.below hb)
     refine hK.out _ _ (below_step hHeld hb) (fun hHeld => ?_)
     clear hK K
     refine norm_ (a' := ?_) ?_ ?_
     rotate_left
     ·show Act.put _ (some 96) _ = _
      simp only [Act.put, List.setIfInBounds_toArray, List.set_cons_zero, List.set_cons_succ, i64_w, i32_w]
      rfl
     refine one_ (i := 12) (N := some 97) (tf 13 66) rfl rfl (one_of HT_.out (by kernel_rfl)) (by decide) (fun K hK => ?_)
     refine goes_ Tryd.func19 (by kernel_rfl) rfl #[.slice A3 xs.length c3, .agg #[.int .i64 n0, .int .i64 n1, .string n2]] (by rfl) rfl rfl (by simp only [List.map_toArray, List.map_cons, List.map_nil]; rfl) ?_
     refine (ref_Add A3 c3 xs X ⟨n0, n1, n2⟩ _ HXe.out (Kd.C_below HX.out hHeld) HXc.out HUX.out (by have := HLX.out; omega)).mono ?_
     rintro e w912 ⟨A12, c12, zs12, HE12, rfl, hc12, hC12, hb⟩
     refine ⟨_, rfl, ?_⟩
     have HS28 := Aside0.mk (HS28.out.below hb)
     have Hc12 := Aside0.mk hc12
     have HC12 := Aside0.mk hC12
     clear hc12 hC12
     refine hK.out _ _ (below_step hHeld hb) (fun hHeld => ?_)
     clear hK K
     refine norm_ (a' := ?_) ?_ ?_
     rotate_left
     ·show Act.put _ (some 97) _ = _
      simp only [Act.put, List.setIfInBounds_toArray, List.set_cons_zero, List.set_cons_succ, i64_w, i32_w]
      rfl
     refine one_ (i := 13) (N := some 98) (tf 14 65) rfl rfl (one_of HT_.out (by kernel_rfl)) (by decide) (fun K hK => ?_)
     refine goes_ Tryd.func20 (by kernel_rfl) rfl #[.agg #[.map (some b28)], .slice A12 zs12.length c12] (by rfl) rfl rfl (by simp only [List.map_toArray, List.map_cons, List.map_nil]; rfl) ?_
     refine (same_yes (some b28) (addR X ⟨n0, n1, n2⟩) A12 c12 zs12 _ HS28.out HC12.out Hc12.out (Nat.le_trans (addR_le _ _) (by have := HLX.out; omega)) (HE12.out.symm)).mono ?_
     rintro e w913 ⟨rfl, hb⟩
     refine ⟨_, rfl, ?_⟩
     refine hK.out _ _ (below_step hHeld hb) (fun hHeld => ?_)
     clear hK K
     refine norm_ (a' := ?_) ?_ ?_
     rotate_left
     ·show Act.put _ (some 98) _ = _
      simp only [Act.put, List.setIfInBounds_toArray, List.set_cons_zero, List.set_cons_succ, i64_w, i32_w]
      rfl
     refine pure_ (i := 14) (N := some 99) (v := ?_) (a' := ?_) (tf 15 64) rfl rfl (any_of HT_.out (by kernel_rfl)) (fun _ _ _ h => h) (Or.inl ⟨by rfl, ?_⟩) ?_ ?_
     rotate_left
     ·intro w'
      go_simp
      with_reducible rfl
     rotate_left
     ·simp only [Act.put, List.setIfInBounds_toArray, List.set_cons_zero, List.set_cons_succ, i64_w, i32_w]
      rfl
     refine pure_ (i := 15) (N := some 100) (v := ?_) (a' := ?_) (tf 16 63) rfl rfl (any_of HT_.out (by kernel_rfl)) (fun _ _ _ h => h) (Or.inl ⟨by rfl, ?_⟩) ?_ ?_
     rotate_left
     ·intro w'
      go_simp
      with_reducible rfl
     rotate_left
     ·simp only [Act.put, List.setIfInBounds_toArray, List.set_cons_zero, List.set_cons_succ, i64_w, i32_w]
      rfl
     refine pure_ (i := 19) (N := some 104) (v := ?_) (a' := ?_) #[true, true, true, true, true, true, true, true, true, true, true, true, true, true, true, true, false, false, false, true, false, false, false, false, false, false, false, false, false, false, false, false, false, false, false, false, false, false, false, false, false, false, false, false, false, false, false, false, false, false, false, false, false, false, false, false, false, false, false, false, false, false, false, false, false, false, false, false, false, false, false, false, false, false, false, false, false, false, false] rfl rfl (any_of HT_.out (by kernel_rfl)) (fun _ _ _ h => h) (Or.inl ⟨by rfl, ?_⟩) ?_ ?_
     rotate_left
     ·intro w'
      go_simp
      with_reducible rfl
     rotate_left
     ·simp only [Act.put, List.setIfInBounds_toArray, List.set_cons_zero, List.set_cons_succ, i64_w, i32_w]
      rfl
     refine take_ (i := 16) (N := some 101) (v := ?_) (a' := ?_) #[true, true, true, true, true, true, true, true, true, true, true, true, true, true, true, true, true, false, false, true, false, false, false, false, false, false, false, false, false, false, false, false, false, false, false, false, false, false, false, false, false, false, false, false, false, false, false, false, false, false, false, false, false, false, false, false, false, false, false, false, false, false, false, false, false, false, false, false, false, false, false, false, false, false, false, false, false, false, false] rfl rfl (take_ofW HT_.out HW_.out (by kernel_rfl)) (fun _ _ _ h => h) (Or.inl ⟨by rfl, ?_⟩) hHeld ?_ ?_
     rotate_left
     ·intro w' s0
      obtain ⟨x0, _⟩ := bk1 (blk_below G11.out s0)
      go_simp
      with_reducible rfl
     rotate_left
     ·simp only [Act.put, List.setIfInBounds_toArray, List.set_cons_zero, List.set_cons_succ, i64_w, i32_w]
      rfl
     refine take_ (i := 17) (N := some 102) (v := ?_) (a' := ?_) #[true, true, true, true, true, true, true, true, true, true, true, true, true, true, true, true, true, true, false, true, false, false, false, false, false, false, false, false, false, false, false, false, false, false, false, false, false, false, false, false, false, false, false, false, false, false, false, false, false, false, false, false, false, false, false, false, false, false, false, false, false, false, false, false, false, false, false, false, false, false, false, false, false, false, false, false, false, false, false] rfl rfl (take_ofW HT_.out HW_.out (by kernel_rfl)) (fun _ _ _ h => h) (Or.inl ⟨by rfl, ?_⟩) hHeld ?_ ?_
     rotate_left
     ·intro w' s0
      obtain ⟨x0, _⟩ := bk1 (blk_below G12.out s0)
      go_simp
      with_reducible rfl
     rotate_left
     ·simp only [Act.put, List.setIfInBounds_toArray, List.set_cons_zero, List.set_cons_succ, i64_w, i32_w]
      rfl
     refine one_ (i := 18) (N := some 103) (tf 20 59) rfl rfl (one_of HT_.out (by kernel_rfl)) (by decide) (fun K hK => ?_)
     refine goes_ Tryd.func23 (by kernel_rfl) rfl #[.agg #[.map (some b1)], .agg #[.map (some b2)]] (by rfl) rfl rfl (by simp only [List.map_toArray, List.map_cons, List.map_nil]; rfl) ?_
     refine (within_p p (some b1) (some b2) X Y _ (HS.out.below hHeld) (HT.out.below hHeld) HP.out).mono ?_
     rintro e w918 ⟨rfl, hb⟩
     refine ⟨_, rfl, ?_⟩
     refine hK.out _ _ (below_step hHeld hb) (fun hHeld => ?_)
     clear hK K
     refine norm_ (a' := ?_) ?_ ?_
     rotate_left
     ·show Act.put _ (some 103) _ = _
      simp only [Act.put, List.setIfInBounds_toArray, List.set_cons_zero, List.set_cons_succ, i64_w, i32_w]
      rfl
     refine pure_ (i := 20) (N := some 105) (v := ?_) (a' := ?_) (tf 21 58) rfl rfl (any_of HT_.out (by kernel_rfl)) (fun _ _ _ h => h) (Or.inl ⟨by rfl, ?_⟩) ?_ ?_
     rotate_left
     ·intro w'
      go_simp
      with_reducible rfl
     rotate_left
     ·simp only [Act.put, List.setIfInBounds_toArray, List.set_cons_zero, List.set_cons_succ, i64_w, i32_w]
      rfl
     refine pure_ (i := 21) (N := some 106) (v := ?_) (a' := ?_) (tf 22 57) rfl rfl (any_of HT_.out (by kernel_rfl)) (fun _ _ _ h => h) (Or.inl ⟨by rfl, ?_⟩) ?_ ?_
     rotate_left
     ·intro w'
      go_simp
      with_reducible rfl
     rotate_left
     ·simp only [Act.put, List.setIfInBounds_toArray, List.set_cons_zero, List.set_cons_succ, i64_w, i32_w]
      rfl
     refine pure_ (i := 22) (N := some 107) (v := ?_) (a' := ?_) (tf 23 56) rfl rfl (any_of HT_.out (by kernel_rfl)) (fun _ _ _ h => h) (Or.inl ⟨by rfl, ?_⟩) ?_ ?_
     rotate_left
     ·intro w'
      go_simp
      with_reducible rfl
     rotate_left
     ·simp only [Act.put, List.setIfInBounds_toArray, List.set_cons_zero, List.set_cons_succ, i64_w, i32_w]
      rfl
     refine pure_ (i := 24) (N := some 109) (v := ?_) (a' := ?_) #[true, true, true, true, true, true, true, true, true, true, true, true, true, true, true, true, true, true, true, true, true, true, true, false, true, false, false, false, false, false, false, false, false, false, false, false, false, false, false, false, false, false, false, false, false, false, false, false, false, false, false, false, false, false, false, false, false, false, false, false, false, false, false, false, false, false, false, false, false, false, false, false, false, false, false, false, false, false, false] rfl rfl (any_of HT_.out (by kernel_rfl)) (fun _ _ _ h => h) (Or.inl ⟨by rfl, ?_⟩) ?_ ?_
     rotate_left
     ·intro w'
      go_simp
      with_reducible rfl
     rotate_left
     ·simp only [Act.put, List.setIfInBounds_toArray, List.set_cons_zero, List.set_cons_succ, i64_w, i32_w]
      rfl
     refine pure_ (i := 26) (N := some 111) (v := ?_) (a' := ?_) #[true, true, true, true, true, true, true, true, true, true, true, true, true, true, true, true, true, true, true, true, true, true, true, false, true, false, true, false, false, false, false, false, false, false, false, false, false, false, false, false, false, false, false, false, false, false, false, false, false, false, false, false, false, false, false, false, false, false, false, false, false, false, false, false, false, false, false, false, false, false, false, false, false, false, false, false, false, false, false] rfl rfl (any_of HT_.out (by kernel_rfl)) (fun _ _ _ h => h) (Or.inl ⟨by rfl, ?_⟩) ?_ ?_
     rotate_left
     ·intro w'
      go_simp
      with_reducible rfl
     rotate_left
     ·simp only [Act.put, List.setIfInBounds_toArray, List.set_cons_zero, List.set_cons_succ, i64_w, i32_w]
      rfl
     refine take_ (i := 23) (N := some 108) (v := ?_) (a' := ?_) #[true, true, true, true, true, true, true, true, true, true, true, true, true, true, true, true, true, true, true, true, true, true, true, true, true, false, true, false, false, false, false, false, false, false, false, false, false, false, false, false, false, false, false, false, false, false, false, false, false, false, false, false, false, false, false, false, false, false, false, false, false, false, false, false, false, false, false, false, false, false, false, false, false, false, false, false, false, false, false] rfl rfl (take_ofW HT_.out HW_.out (by kernel_rfl)) (fun _ _ _ h => h) (Or.inl ⟨by rfl, ?_⟩) hHeld ?_ ?_
     rotate_left
     ·intro w' s0
      obtain ⟨x0, _⟩ := bk1 (blk_below G11.out s0)
      go_simp
      with_reducible rfl
     rotate_left
     ·simp only [Act.put, List.setIfInBounds_toArray, List.set_cons_zero, List.set_cons_succ, i64_w, i32_w]
      rfl
     refine one_ (i := 25) (N := some 110) (tf 27 52) rfl rfl (one_of HT_.out (by kernel_rfl)) (by decide) (fun K hK => ?_)
     refine goes_ Tryd.func24 (by kernel_rfl) rfl #[.agg #[.map (some b1)], .string typ] (by rfl) rfl rfl (by simp only [List.map_toArray, List.map_cons, List.map_nil]; rfl) ?_
     refine (set_Typed (some b1) X typ _ (HS.out.below hHeld) (by have := HLX.out; omega)).mono ?_
     rintro e w925 ⟨b25, rfl, _, hs25, hb⟩
     refine ⟨_, rfl, ?_⟩
     have HS25 := Aside0.mk hs25
     clear hs25
     refine hK.out _ _ (below_step hHeld hb) (fun hHeld => ?_)
     clear hK K
     refine norm_ (a' := ?_) ?_ ?_
     rotate_left
     ·show Act.put _ (some 110) _ = _
      simp only [Act.put, List.setIfInBounds_toArray, List.set_cons_zero, List.set_cons_succ, i64_w, i32_w]
      rfl
     refine one_ (i := 27) (N := some 112) (tf 28 51) rfl rfl (one_of HT_.out (by kernel_rfl)) (by decide) (fun K hK => ?_)
     refine goes_ Tryd.func20 (by kernel_rfl) rfl #[.agg #[.map (some b25)], .slice A6 ts.length c6] (by rfl) rfl rfl (by simp only [List.map_toArray, List.map_cons, List.map_nil]; rfl) ?_
     refine (same_yes (some b25) (typedL typ X) A6 c6 ts _ HS25.out (Kd.C_below HTY.out hHeld) HTYc.out (Nat.le_trans (List.length_filter_le _ _) (by have := HLX.out; omega)) (HTYe.out.symm)).mono ?_
     rintro e w927 ⟨rfl, hb⟩
     refine ⟨_, rfl, ?_⟩
     refine hK.out _ _ (below_step hHeld hb) (fun hHeld => ?_)
     clear hK K
     refine norm_ (a' := ?_) ?_ ?_
     rotate_left
     ·show Act.put _ (some 112) _ = _
      simp only [Act.put, List.setIfInBounds_toArray, List.set_cons_zero, List.set_cons_succ, i64_w, i32_w]
      rfl
     refine pure_ (i := 28) (N := some 113) (v := ?_) (a' := ?_) (tf 29 50) rfl rfl (any_of HT_.out (by kernel_rfl)) (fun _ _ _ h => h) (Or.inl ⟨by rfl, ?_⟩) ?_ ?_
     rotate_left
     ·intro w'
      go_simp
      with_reducible rfl
     rotate_left
     ·simp only [Act.put, List.setIfInBounds_toArray, List.set_cons_zero, List.set_cons_succ, i64_w, i32_w]
      rfl
     refine pure_ (i := 29) (N := some 114) (v := ?_) (a' := ?_) (tf 30 49) rfl rfl (any_of HT_.out (by kernel_rfl)) (fun _ _ _ h => h) (Or.inl ⟨by rfl, ?_⟩) ?_ ?_
     rotate_left
     ·intro w'
      go_simp
      with_reducible rfl
     rotate_left
     ·simp only [Act.put, List.setIfInBounds_toArray, List.set_cons_zero, List.set_cons_succ, i64_w, i32_w]
      rfl
     refine pure_ (i := 33) (N := some 118) (v := ?_) (a' := ?_) #[true, true, true, true, true, true, true, true, true, true, true, true, true, true, true, true, true, true, true, true, true, true, true, true, true, true, true, true, true, true, false, false, false, true, false, false, false, false, false, false, false, false, false, false, false, false, false, false, false, false, false, false, false, false, false, false, false, false, false, false, false, false, false, false, false, false, false, false, false, false, false, false, false, false, false, false, false, false, false] rfl rfl (any_of HT_.out (by kernel_rfl)) (fun _ _ _ h => h) (Or.inl ⟨by rfl, ?_⟩) ?_ ?_
     rotate_left
     ·intro w'
      go_simp
      with_reducible rfl
     rotate_left
     ·simp only [Act.put, List.setIfInBounds_toArray, List.set_cons_zero, List.set_cons_succ, i64_w, i32_w]
      rfl
     refine take_ (i := 30) (N := some 115) (v := ?_) (a' := ?_) #[true, true, true, true, true, true, true, true, true, true, true, true, true, true, true, true, true, true, true, true, true, true, true, true, true, true, true, true, true, true, true, false, false, true, false, false, false, false, false, false, false, false, false, false, false, false, false, false, false, false, false, false, false, false, false, false, false, false, false, false, false, false, false, false, false, false, false, false, false, false, false, false, false, false, false, false, false, false, false] rfl rfl (take_ofW HT_.out HW_.out (by kernel_rfl)) (fun _ _ _ h => h) (Or.inl ⟨by rfl, ?_⟩) hHeld ?_ ?_
     rotate_left
     ·intro w' s0
      obtain ⟨x0, _⟩ := bk1 (blk_below G11.out s0)
      go_simp
      with_reducible rfl
     rotate_left
     ·simp only [Act.put, List.setIfInBounds_toArray, List.set_cons_zero, List.set_cons_succ, i64_w, i32_w]
      rfl
     refine take_ (i := 31) (N := some 116) (v := ?_) (a' := ?_) #[true, true, true, true, true, true, true, true, true, true, true, true, true, true, true, true, true, true, true, true, true, true, true, true, true, true, true, true, true, true, true, true, false, true, false, false, false, false, false, false, false, false, false, false, false, false, false, false, false, false, false, false, false, false, false, false, false, false, false, false, false, false, false, false, false, false, false, false, false, false, false, false, false, false, false, false, false, false, false] rfl rfl (take_ofW HT_.out HW_.out (by kernel_rfl)) (fun _ _ _ h => h) (Or.inl ⟨by rfl, ?_⟩) hHeld ?_ ?_
     rotate_left
     ·intro w' s0
      obtain ⟨x0, x1, x2, _⟩ := bk3 (blk_below H6.out s0)
      go_simp
      with_reducible rfl
     rotate_left
     ·simp only [Act.put, List.setIfInBounds_toArray, List.set_cons_zero, List.set_cons_succ, i64_w, i32_w]
      rfl
     refine take_ (i := 34) (N := some 119) (v := ?_) (a' := ?_) #[true, true, true, true, true, true, true, true, true, true, true, true, true, true, true, true, true, true, true, true, true, true, true, true, true, true, true, true, true, true, true, true, false, true, true, false, false, false, false, false, false, false, false, false, false, false, false, false, false, false, false, false, false, false, false, false, false, false, false, false, false, false, false, false, false, false, false, false, false, false, false, false, false, false, false, false, false, false, false] rfl rfl (take_ofW HT_.out HW_.out (by kernel_rfl)) (fun _ _ _ h => h) (Or.inl ⟨by rfl, ?_⟩) hHeld ?_ ?_
     rotate_left
     ·intro w' s0
      obtain ⟨x0, x1, x2, _⟩ := bk3 (blk_below H6.out s0)
      go_simp
      with_reducible rfl
     rotate_left
     ·simp only [Act.put, List.setIfInBounds_toArray, List.set_cons_zero, List.set_cons_succ, i64_w, i32_w]
      rfl
     refine one_ (i := 32) (N := some 117) (tf 35 44) rfl rfl (one_of HT_.out (by kernel_rfl)) (by decide) (fun K hK => ?_)
     refine goes_ Tryd.func25 (by kernel_rfl) rfl #[.agg #[.map (some b1)], .agg #[.int .i64 n0, .int .i64 n1, .string n2]] (by rfl) rfl rfl (by simp only [List.map_toArray, List.map_cons, List.map_nil]; rfl) ?_
     refine (has_q q (some b1) X ⟨n0, n1, n2⟩ _ (HS.out.below hHeld) HWN.out HQ.out).mono ?_
     rintro e w932 ⟨rfl, hb⟩
     refine ⟨_, rfl, ?_⟩
     refine hK.out _ _ (below_step hHeld hb) (fun hHeld => ?_)
     clear hK K
     refine norm_ (a' := ?_) ?_ ?_
     rotate_left
     ·show Act.put _ (some 117) _ = _
      simp only [Act.put, List.setIfInBounds_toArray, List.set_cons_zero, List.set_cons_succ, i64_w, i32_w]
      rfl
     refine one_ (i := 35) (N := some 120) (tf 36 43) rfl rfl (one_of HT_.out (by kernel_rfl)) (by decide) (fun K hK => ?_)
     refine goes_ Tryd.func9 (by kernel_rfl) rfl #[.agg #[.int .i64 n0, .int .i64 n1, .string n2]] (by rfl) rfl rfl (by simp only [List.map_toArray, List.map_cons, List.map_nil]; rfl) ?_
     refine (truantlaw18_form.calls _ _ _ _ _ _ _ rfl).mono ?_
     rintro e w935 ⟨rfl, hb⟩
     refine ⟨_, rfl, ?_⟩
     refine hK.out _ _ (below_step hHeld hb) (fun hHeld => ?_)
     clear hK K
     refine norm_ (a' := ?_) ?_ ?_
     rotate_left
     ·show Act.put _ (some 120) _ = _
      simp only [Act.put, List.setIfInBounds_toArray, List.set_cons_zero, List.set_cons_succ, i64_w, i32_w]
      rfl
     refine one_ (i := 36) (N := some 121) (tf 37 42) rfl rfl (one_of HT_.out (by kernel_rfl)) (by decide) (fun K hK => ?_)
     refine goes_ Tryd.func18 (by kernel_rfl) rfl #[.slice A3 xs.length c3, .agg #[.int .i64 n0, .int .i64 n1, .string n2]] (by rfl) rfl rfl (by simp only [List.map_toArray, List.map_cons, List.map_nil]; rfl) ?_
     refine (truantref18_Has.calls kh A3 c3 xs n0 n1 n2 q _ (Kd.C_below HX.out hHeld) HXc.out HKH.out).mono ?_
     rintro e w936 ⟨rfl, hb⟩
     refine ⟨_, rfl, ?_⟩
     refine hK.out _ _ (below_step hHeld hb) (fun hHeld => ?_)
     clear hK K
     refine norm_ (a' := ?_) ?_ ?_
     rotate_left
     ·show Act.put _ (some 121) _ = _
      simp only [Act.put, List.setIfInBounds_toArray, List.set_cons_zero, List.set_cons_succ, i64_w, i32_w]
      rfl
     refine pure_ (i := 37) (N := some 122) (v := ?_) (a' := ?_) (tf 38 41) rfl rfl (any_of HT_.out (by kernel_rfl)) (fun _ _ _ h => h) (Or.inl ⟨by rfl, ?_⟩) ?_ ?_
     rotate_left
     ·intro w'
      go_simp
      with_reducible rfl
     rotate_left
     ·simp only [Act.put, List.setIfInBounds_toArray, List.set_cons_zero, List.set_cons_succ, i64_w, i32_w]
      rfl
     refine pure_ (i := 38) (N := some 123) (v := ?_) (a' := ?_) (tf 39 40) rfl rfl (any_of HT_.out (by kernel_rfl)) (fun _ _ _ h => h) (Or.inl ⟨by rfl, ?_⟩) ?_ ?_
     rotate_left
     ·intro w'
      go_simp
      with_reducible rfl
     rotate_left
     ·simp only [Act.put, List.setIfInBounds_toArray, List.set_cons_zero, List.set_cons_succ, i64_w, i32_w]
      rfl
     refine pure_ (i := 39) (N := some 124) (v := ?_) (a' := ?_) (tf 40 39) rfl rfl (any_of HT_.out (by kernel_rfl)) (fun _ _ _ h => h) (Or.inl ⟨by rfl, ?_⟩) ?_ ?_
     rotate_left
     ·intro w'
      go_simp
      with_reducible rfl
     rotate_left
     ·simp only [Act.put, List.setIfInBounds_toArray, List.set_cons_zero, List.set_cons_succ, i64_w, i32_w]
      rfl
     refine pure_ (i := 41) (N := some 126) (v := ?_) (a' := ?_) #[true, true, true, true, true, true, true, true, true, true, true, true, true, true, true, true, true, true, true, true, true, true, true, true, true, true, true, true, true, true, true, true, true, true, true, true, true, true, true, true, false, true, false, false, false, false, false, false, false, false, false, false, false, false, false, false, false, false, false, false, false, false, false, false, false, false, false, false, false, false, false, false, false, false, false, false, false, false, false] rfl rfl (any_of HT_.out (by kernel_rfl)) (fun _ _ _ h => h) (Or.inl ⟨by rfl, ?_⟩) ?_ ?_
     rotate_left
     ·intro w'
      go_simp
      with_reducible rfl
     rotate_left
     ·simp only [Act.put, List.setIfInBounds_toArray, List.set_cons_zero, List.set_cons_succ, i64_w, i32_w]
      rfl
     refine take_ (i := 40) (N := some 125) (v := ?_) (a' := ?_) (tf 42 37) rfl rfl (take_ofW HT_.out HW_.out (by kernel_rfl)) (fun _ _ _ h => h) (Or.inl ⟨by rfl, ?_⟩) hHeld ?_ ?_
     rotate_left
     ·intro w' s0
      obtain ⟨x0, _⟩ := bk1 (blk_below G11.out s0)
      go_simp
      with_reducible rfl
     rotate_left
     ·simp only [Act.put, List.setIfInBounds_toArray, List.set_cons_zero, List.set_cons_succ, i64_w, i32_w]
      rfl
     refine one_ (i := 42) (N := some 127) (tf 43 36) rfl rfl (one_of HT_.out (by kernel_rfl)) (by decide) (fun K hK => ?_)
     refine goes_ Tryd.func20 (by kernel_rfl) rfl #[.agg #[.map (some b1)], .slice A3 xs.length c3] (by rfl) rfl rfl (by simp only [List.map_toArray, List.map_cons, List.map_nil]; rfl) ?_
     refine (same_yes (some b1) X A3 c3 xs _ (HS.out.below hHeld) (Kd.C_below HX.out hHeld) HXc.out (by have := HLX.out; omega) (HXe.out.symm)).mono ?_
     rintro e w942 ⟨rfl, hb⟩
     refine ⟨_, rfl, ?_⟩
     refine hK.out _ _ (below_step hHeld hb) (fun hHeld => ?_)
     clear hK K
     refine norm_ (a' := ?_) ?_ ?_
     rotate_left
     ·show Act.put _ (some 127) _ = _
      simp only [Act.put, List.setIfInBounds_toArray, List.set_cons_zero, List.set_cons_succ, i64_w, i32_w]
      rfl
     refine pure_ (i := 43) (N := some 128) (v := ?_) (a' := ?_) (tf 44 35) rfl rfl (any_of HT_.out (by kernel_rfl)) (fun _ _ _ h => h) (Or.inl ⟨by rfl, ?_⟩) ?_ ?_
     rotate_left
     ·intro w'
      go_simp
      with_reducible rfl
     rotate_left
     ·simp only [Act.put, List.setIfInBounds_toArray, List.set_cons_zero, List.set_cons_succ, i64_w, i32_w]
      rfl
     refine pure_ (i := 44) (N := some 129) (v := ?_) (a' := ?_) (tf 45 34) rfl rfl (any_of HT_.out (by kernel_rfl)) (fun _ _ _ h => h) (Or.inl ⟨by rfl, ?_⟩) ?_ ?_
     rotate_left
     ·intro w'
      go_simp
      with_reducible rfl
     rotate_left
     ·simp only [Act.put, List.setIfInBounds_toArray, List.set_cons_zero, List.set_cons_succ, i64_w, i32_w]
      rfl
     refine pure_ (i := 46) (N := some 131) (v := ?_) (a' := ?_) #[true, true, true, true, true, true, true, true, true, true, true, true, true, true, true, true, true, true, true, true, true, true, true, true, true, true, true, true, true, true, true, true, true, true, true, true, true, true, true, true, true, true, true, true, true, false, true, false, false, false, false, false, false, false, false, false, false, false, false, false, false, false, false, false, false, false, false, false, false, false, false, false, false, false, false, false, false, false, false] rfl rfl (any_of HT_.out (by kernel_rfl)) (fun _ _ _ h => h) (Or.inl ⟨by rfl, ?_⟩) ?_ ?_
     rotate_left
     ·intro w'
      go_simp
      with_reducible rfl
     rotate_left
     ·simp only [Act.put, List.setIfInBounds_toArray, List.set_cons_zero, List.set_cons_succ, i64_w, i32_w]
      rfl
     refine take_ (i := 45) (N := some 130) (v := ?_) (a' := ?_) (tf 47 32) rfl rfl (take_ofW HT_.out HW_.out (by kernel_rfl)) (fun _ _ _ h => h) (Or.inl ⟨by rfl, ?_⟩) hHeld ?_ ?_
     rotate_left
     ·intro w' s0
      obtain ⟨x0, _⟩ := bk1 (blk_below G12.out s0)
      go_simp
      with_reducible rfl
     rotate_left
     ·simp only [Act.put, List.setIfInBounds_toArray, List.set_cons_zero, List.set_cons_succ, i64_w, i32_w]
      rfl
     refine one_ (i := 47) (N := some 132) (tf 48 31) rfl rfl (one_of HT_.out (by kernel_rfl)) (by decide) (fun K hK => ?_)
     refine goes_ Tryd.func20 (by kernel_rfl) rfl #[.agg #[.map (some b2)], .slice A4 ys.length c4] (by rfl) rfl rfl (by simp only [List.map_toArray, List.map_cons, List.map_nil]; rfl) ?_
     refine (same_yes (some b2) Y A4 c4 ys _ (HT.out.below hHeld) (Kd.C_below HY.out hHeld) HYc.out (by have := HLY.out; omega) (HYe.out.symm)).mono ?_
     rintro e w947 ⟨rfl, hb⟩
     refine ⟨_, rfl, ?_⟩
     refine hK.out _ _ (below_step hHeld hb) (fun hHeld => ?_)
     clear hK K
     refine norm_ (a' := ?_) ?_ ?_
     rotate_left
     ·show Act.put _ (some 132) _ = _
      simp only [Act.put, List.setIfInBounds_toArray, List.set_cons_zero, List.set_cons_succ, i64_w, i32_w]
      rfl
     refine pure_ (i := 48) (N := some 133) (v := ?_) (a' := ?_) (tf 49 30) rfl rfl (any_of HT_.out (by kernel_rfl)) (fun _ _ _ h => h) (Or.inl ⟨by rfl, ?_⟩) ?_ ?_
     rotate_left
     ·intro w'
      go_simp
      with_reducible rfl
     rotate_left
     ·simp only [Act.put, List.setIfInBounds_toArray, List.set_cons_zero, List.set_cons_succ, i64_w, i32_w]
      rfl
     refine pure_ (i := 49) (N := some 134) (v := ?_) (a' := ?_) (tf 50 29) rfl rfl (any_of HT_.out (by kernel_rfl)) (fun _ _ _ h => h) (Or.inl ⟨by rfl, ?_⟩) ?_ ?_
     rotate_left
     ·intro w'
      go_simp
      with_reducible rfl
     rotate_left
     ·simp only [Act.put, List.setIfInBounds_toArray, List.set_cons_zero, List.set_cons_succ, i64_w, i32_w]
      rfl
     refine take_ (i := 50) (N := some 135) (v := ?_) (a' := ?_) (tf 51 28) rfl rfl (take_ofW HT_.out HW_.out (by kernel_rfl)) (fun _ _ _ h => h) (Or.inl ⟨by rfl, ?_⟩) hHeld ?_ ?_
     rotate_left
     ·intro w' s0
      obtain ⟨x0, _⟩ := bk1 (blk_below G18.out s0)
      go_simp
      with_reducible rfl
     rotate_left
     ·simp only [Act.put, List.setIfInBounds_toArray, List.set_cons_zero, List.set_cons_succ, i64_w, i32_w]
      rfl
     refine one_ (i := 51) (N := some 136) (tf 52 27) rfl rfl (one_of HT_.out (by kernel_rfl)) (by decide) (fun K hK => ?_)
     refine goes_ Tryd.func26 (by kernel_rfl) rfl #[.agg #[.map none]] (by rfl) rfl rfl (by simp only [List.map_toArray, List.map_cons, List.map_nil]; rfl) ?_
     refine (set_Len none [] _ rfl).mono ?_
     rintro e w951 ⟨rfl, hb⟩
     refine ⟨_, rfl, ?_⟩
     refine hK.out _ _ (below_step hHeld hb) (fun hHeld => ?_)
     clear hK K
     refine norm_ (a' := ?_) ?_ ?_
     rotate_left
     ·show Act.put _ (some 136) _ = _
      simp only [Act.put, List.setIfInBounds_toArray, List.set_cons_zero, List.set_cons_succ, i64_w, i32_w]
      rfl
     refine pure_ (i := 52) (N := some 137) (v := ?_) (a' := ?_) (tf 53 26) rfl rfl (any_of HT_.out (by kernel_rfl)) (fun _ _ _ h => h) (Or.inl ⟨by rfl, ?_⟩) ?_ ?_
     rotate_left
     ·intro w'
      go_simp
      with_reducible rfl
     rotate_left
     ·simp only [Act.put, List.setIfInBounds_toArray, List.set_cons_zero, List.set_cons_succ, i64_w, i32_w]
      rfl
     refine pure_ (i := 53) (N := some 138) (v := ?_) (a' := ?_) (tf 54 25) rfl rfl (any_of HT_.out (by kernel_rfl)) (fun _ _ _ h => h) (Or.inl ⟨by rfl, ?_⟩) ?_ ?_
     rotate_left
     ·intro w'
      go_simp
      with_reducible rfl
     rotate_left
     ·simp only [Act.put, List.setIfInBounds_toArray, List.set_cons_zero, List.set_cons_succ, i64_w, i32_w]
      rfl
     refine pure_ (i := 54) (N := some 139) (v := ?_) (a' := ?_) (tf 55 24) rfl rfl (any_of HT_.out (by kernel_rfl)) (fun _ _ _ h => h) (Or.inl ⟨by rfl, ?_⟩) ?_ ?_
     rotate_left
     ·intro w'
      go_simp
      with_reducible rfl
     rotate_left
     ·simp only [Act.put, List.setIfInBounds_toArray, List.set_cons_zero, List.set_cons_succ, i64_w, i32_w]
      rfl
     refine take_ (i := 55) (N := some 140) (v := ?_) (a' := ?_) (tf 56 23) rfl rfl (take_ofW HT_.out HW_.out (by kernel_rfl)) (fun _ _ _ h => h) (Or.inl ⟨by rfl, ?_⟩) hHeld ?_ ?_
     rotate_left
     ·intro w' s0
      obtain ⟨x0, _⟩ := bk1 (blk_below G18.out s0)
      go_simp
      with_reducible rfl
     rotate_left
     ·simp only [Act.put, List.setIfInBounds_toArray, List.set_cons_zero, List.set_cons_succ, i64_w, i32_w]
      rfl
     refine take_ (i := 56) (N := some 141) (v := ?_) (a' := ?_) (tf 57 22) rfl rfl (take_ofW HT_.out HW_.out (by kernel_rfl)) (fun _ _ _ h => h) (Or.inl ⟨by rfl, ?_⟩) hHeld ?_ ?_
     rotate_left
     ·intro w' s0
      obtain ⟨x0, x1, x2, _⟩ := bk3 (blk_below H6.out s0)
      go_simp
      with_reducible rfl
     rotate_left
     ·simp only [Act.put, List.setIfInBounds_toArray, List.set_cons_zero, List.set_cons_succ, i64_w, i32_w]
      rfl
     refine one_ (i := 57) (N := some 142) (tf 58 21) rfl rfl (one_of HT_.out (by kernel_rfl)) (by decide) (fun K hK => ?_)
     refine goes_ Tryd.func25 (by kernel_rfl) rfl #[.agg #[.map none], .agg #[.int .i64 n0, .int .i64 n1, .string n2]] (by rfl) rfl rfl (by simp only [List.map_toArray, List.map_cons, List.map_nil]; rfl) ?_
     refine (has_q false none [] ⟨n0, n1, n2⟩ _ rfl HWN.out (decB_false (fun h => (nomatch h)))).mono ?_
     rintro e w957 ⟨rfl, hb⟩
     refine ⟨_, rfl, ?_⟩
     refine hK.out _ _ (below_step hHeld hb) (fun hHeld => ?_)
     clear hK K
     refine norm_ (a' := ?_) ?_ ?_
     rotate_left
     ·show Act.put _ (some 142) _ = _
      simp only [Act.put, List.setIfInBounds_toArray, List.set_cons_zero, List.set_cons_succ, i64_w, i32_w]
      rfl
     refine pure_ (i := 58) (N := some 143) (v := ?_) (a' := ?_) (tf 59 20) rfl rfl (any_of HT_.out (by kernel_rfl)) (fun _ _ _ h => h) (Or.inl ⟨by rfl, ?_⟩) ?_ ?_
     rotate_left
     ·intro w'
      go_simp
      with_reducible rfl
     rotate_left
     ·simp only [Act.put, List.setIfInBounds_toArray, List.set_cons_zero, List.set_cons_succ, i64_w, i32_w]
      rfl
     refine pure_ (i := 59) (N := some 144) (v := ?_) (a' := ?_) (tf 60 19) rfl rfl (any_of HT_.out (by kernel_rfl)) (fun _ _ _ h => h) (Or.inl ⟨by rfl, ?_⟩) ?_ ?_
     rotate_left
     ·intro w'
      go_simp
      with_reducible rfl
     rotate_left
     ·simp only [Act.put, List.setIfInBounds_toArray, List.set_cons_zero, List.set_cons_succ, i64_w, i32_w]
      rfl
     refine pure_ (i := 60) (N := some 145) (v := ?_) (a' := ?_) (tf 61 18) rfl rfl (any_of HT_.out (by kernel_rfl)) (fun _ _ _ h => h) (Or.inl ⟨by rfl, ?_⟩) ?_ ?_
     rotate_left
     ·intro w'
      go_simp
      with_reducible rfl
     rotate_left
     ·simp only [Act.put, List.setIfInBounds_toArray, List.set_cons_zero, List.set_cons_succ, i64_w, i32_w]
      rfl
     refine take_ (i := 61) (N := some 146) (v := ?_) (a' := ?_) (tf 62 17) rfl rfl (take_ofW HT_.out HW_.out (by kernel_rfl)) (fun _ _ _ h => h) (Or.inl ⟨by rfl, ?_⟩) hHeld ?_ ?_
     rotate_left
     ·intro w' s0
      obtain ⟨x0, _⟩ := bk1 (blk_below G18.out s0)
      go_simp
      with_reducible rfl
     rotate_left
     ·simp only [Act.put, List.setIfInBounds_toArray, List.set_cons_zero, List.set_cons_succ, i64_w, i32_w]
      rfl
     refine take_ (i := 62) (N := some 147) (v := ?_) (a' := ?_) (tf 63 16) rfl rfl (take_ofW HT_.out HW_.out (by kernel_rfl)) (fun _ _ _ h => h) (Or.inl ⟨by rfl, ?_⟩) hHeld ?_ ?_
     rotate_left
     ·intro w' s0
      obtain ⟨x0, _⟩ := bk1 (blk_below G11.out s0)
      go_simp
      with_reducible rfl
     rotate_left
     ·simp only [Act.put, List.setIfInBounds_toArray, List.set_cons_zero, List.set_cons_succ, i64_w, i32_w]
      rfl
     refine one_ (i := 63) (N := some 148) (tf 64 15) rfl rfl (one_of HT_.out (by kernel_rfl)) (by decide) (fun K hK => ?_)
     refine goes_ Tryd.func23 (by kernel_rfl) rfl #[.agg #[.map none], .agg #[.map (some b1)]] (by rfl) rfl rfl (by simp only [List.map_toArray, List.map_cons, List.map_nil]; rfl) ?_
     refine (within_p true none (some b1) [] X _ rfl (HS.out.below hHeld) (decB_true (fun x h => (nomatch h)))).mono ?_
     rintro e w963 ⟨rfl, hb⟩
     refine ⟨_, rfl, ?_⟩
     refine hK.out _ _ (below_step hHeld hb) (fun hHeld => ?_)
     clear hK K
     refine norm_ (a' := ?_) ?_ ?_
     rotate_left
     ·show Act.put _ (some 148) _ = _
      simp only [Act.put, List.setIfInBounds_toArray, List.set_cons_zero, List.set_cons_succ, i64_w, i32_w]
      rfl
     refine pure_ (i := 64) (N := some 149) (v := ?_) (a' := ?_) (tf 65 14) rfl rfl (any_of HT_.out (by kernel_rfl)) (fun _ _ _ h => h) (Or.inl ⟨by rfl, ?_⟩) ?_ ?_
     rotate_left
     ·intro w'
      go_simp
      with_reducible rfl
     rotate_left
     ·simp only [Act.put, List.setIfInBounds_toArray, List.set_cons_zero, List.set_cons_succ, i64_w, i32_w]
      rfl
     refine pure_ (i := 65) (N := some 150) (v := ?_) (a' := ?_) (tf 66 13) rfl rfl (any_of HT_.out (by kernel_rfl)) (fun _ _ _ h => h) (Or.inl ⟨by rfl, ?_⟩) ?_ ?_
     rotate_left
     ·intro w'
      go_simp
      with_reducible rfl
     rotate_left
     ·simp only [Act.put, List.setIfInBounds_toArray, List.set_cons_zero, List.set_cons_succ, i64_w, i32_w]
      rfl
     refine pure_ (i := 69) (N := some 154) (v := ?_) (a' := ?_) #[true, true, true, true, true, true, true, true, true, true, true, true, true, true, true, true, true, true, true, true, true, true, true, true, true, true, true, true, true, true, true, true, true, true, true, true, true, true, true, true, true, true, true, true, true, true, true, true, true, true, true, true, true, true, true, true, true, true, true, true, true, true, true, true, true, true, false, false, false, true, false, false, false, false, false, false, false, false, false] rfl rfl (any_of HT_.out (by kernel_rfl)) (fun _ _ _ h => h) (Or.inl ⟨by rfl, ?_⟩) ?_ ?_
     rotate_left
     ·intro w'
      go_simp
      with_reducible rfl
     rotate_left
     ·simp only [Act.put, List.setIfInBounds_toArray, List.set_cons_zero, List.set_cons_succ, i64_w, i32_w]
      rfl
     refine take_ (i := 66) (N := some 151) (v := ?_) (a' := ?_) #[true, true, true, true, true, true, true, true, true, true, true, true, true, true, true, true, true, true, true, true, true, true, true, true, true, true, true, true, true, true, true, true, true, true, true, true, true, true, true, true, true, true, true, true, true, true, true, true, true, true, true, true, true, true, true, true, true, true, true, true, true, true, true, true, true, true, true, false, false, true, false, false, false, false, false, false, false, false, false] rfl rfl (take_ofW HT_.out HW_.out (by kernel_rfl)) (fun _ _ _ h => h) (Or.inl ⟨by rfl, ?_⟩) hHeld ?_ ?_
     rotate_left
     ·intro w' s0
      obtain ⟨x0, _⟩ := bk1 (blk_below G18.out s0)
      go_simp
      with_reducible rfl
     rotate_left
     ·simp only [Act.put, List.setIfInBounds_toArray, List.set_cons_zero, List.set_cons_succ, i64_w, i32_w]
      rfl
     refine take_ (i := 67) (N := some 152) (v := ?_) (a' := ?_) #[true, true, true, true, true, true, true, true, true, true, true, true, true, true, true, true, true, true, true, true, true, true, true, true, true, true, true, true, true, true, true, true, true, true, true, true, true, true, true, true, true, true, true, true, true, true, true, true, true, true, true, true, true, true, true, true, true, true, true, true, true, true, true, true, true, true, true, true, false, true, false, false, false, false, false, false, false, false, false] rfl rfl (take_ofW HT_.out HW_.out (by kernel_rfl)) (fun _ _ _ h => h) (Or.inl ⟨by rfl, ?_⟩) hHeld ?_ ?_
     rotate_left
     ·intro w' s0
      obtain ⟨x0, _⟩ := bk1 (blk_below G11.out s0)
      go_simp
      with_reducible rfl
     rotate_left
     ·simp only [Act.put, List.setIfInBounds_toArray, List.set_cons_zero, List.set_cons_succ, i64_w, i32_w]
      rfl
     refine one_ (i := 68) (N := some 153) (tf 70 9) rfl rfl (one_of HT_.out (by kernel_rfl)) (by decide) (fun K hK => ?_)
     refine goes_ Tryd.func21 (by kernel_rfl) rfl #[.agg #[.map none], .agg #[.map (some b1)]] (by rfl) rfl rfl (by simp only [List.map_toArray, List.map_cons, List.map_nil]; rfl) ?_
     refine (set_Join none (some b1) [] X _ rfl (HS.out.below hHeld) (by have := HLX.out; simp; omega)).mono ?_
     rintro e w968 ⟨b68, rfl, _, hs68, hb⟩
     refine ⟨_, rfl, ?_⟩
     have HS68 := Aside0.mk hs68
     clear hs68
     refine hK.out _ _ (below_step hHeld hb) (fun hHeld => ?_)
     clear hK K
     refine norm_ (a' := ?_) ?_ ?_
     rotate_left
     ·show Act.put _ (some 153) _ = _
      simp only [Act.put, List.setIfInBounds_toArray, List.set_cons_zero, List.set_cons_succ, i64_w, i32_w]
      rfl
     refine one_ (i := 70) (N := some 155) (tf 71 8) rfl rfl (one_of HT_.out (by kernel_rfl)) (by decide) (fun K hK => ?_)
     refine goes_ Tryd.func20 (by kernel_rfl) rfl #[.agg #[.map (some b68)], .slice A3 xs.length c3] (by rfl) rfl rfl (by simp only [List.map_toArray, List.map_cons, List.map_nil]; rfl) ?_
     refine (same_yes (some b68) (X.foldl addR []) A3 c3 xs _ HS68.out (Kd.C_below HX.out hHeld) HXc.out (Nat.le_trans (foldl_le X []) (by have := HLX.out; simp; omega)) (HJX.out)).mono ?_
     rintro e w970 ⟨rfl, hb⟩
     refine ⟨_, rfl, ?_⟩
     refine hK.out _ _ (below_step hHeld hb) (fun hHeld => ?_)
     clear hK K
     refine norm_ (a' := ?_) ?_ ?_
     rotate_left
     ·show Act.put _ (some 155) _ = _
      simp only [Act.put, List.setIfInBounds_toArray, List.set_cons_zero, List.set_cons_succ, i64_w, i32_w]
      rfl
     refine pure_ (i := 71) (N := some 156) (v := ?_) (a' := ?_) (tf 72 7) rfl rfl (any_of HT_.out (by kernel_rfl)) (fun _ _ _ h => h) (Or.inl ⟨by rfl, ?_⟩) ?_ ?_
     rotate_left
     ·intro w'
      go_simp
      with_reducible rfl
     rotate_left
     ·simp only [Act.put, List.setIfInBounds_toArray, List.set_cons_zero, List.set_cons_succ, i64_w, i32_w]
      rfl
     refine pure_ (i := 72) (N := some 157) (v := ?_) (a' := ?_) (tf 73 6) rfl rfl (any_of HT_.out (by kernel_rfl)) (fun _ _ _ h => h) (Or.inl ⟨by rfl, ?_⟩) ?_ ?_
     rotate_left
     ·intro w'
      go_simp
      with_reducible rfl
     rotate_left
     ·simp only [Act.put, List.setIfInBounds_toArray, List.set_cons_zero, List.set_cons_succ, i64_w, i32_w]
      rfl
     refine take_ (i := 73) (N := some 158) (v := ?_) (a' := ?_) (tf 74 5) rfl rfl (take_ofW HT_.out HW_.out (by kernel_rfl)) (fun _ _ _ h => h) (Or.inl ⟨by rfl, ?_⟩) hHeld ?_ ?_
     rotate_left
     ·intro w' s0
      obtain ⟨x0, _⟩ := bk1 (blk_below G18.out s0)
      go_simp
      with_reducible rfl
     rotate_left
     ·simp only [Act.put, List.setIfInBounds_toArray, List.set_cons_zero, List.set_cons_succ, i64_w, i32_w]
      rfl
     refine one_ (i := 74) (N := some 159) (tf 75 4) rfl rfl (one_of HT_.out (by kernel_rfl)) (by decide) (fun K hK => ?_)
     refine goes_ Tryd.func27 (by kernel_rfl) rfl #[.agg #[.map none]] (by rfl) rfl rfl (by simp only [List.map_toArray, List.map_cons, List.map_nil]; rfl) ?_
     refine (set_List none [] _ rfl (by decide)).mono ?_
     rintro e w974 ⟨v74, rfl, hr74, hb⟩
     refine ⟨_, rfl, ?_⟩
     obtain ⟨A74, c74, e74⟩ := Kd.R_slice hr74
     subst e74
     clear hr74
     refine hK.out _ _ (below_step hHeld hb) (fun hHeld => ?_)
     clear hK K
     refine norm_ (a' := ?_) ?_ ?_
     rotate_left
     ·show Act.put _ (some 159) _ = _
      simp only [Act.put, List.setIfInBounds_toArray, List.set_cons_zero, List.set_cons_succ, i64_w, i32_w]
      rfl
     refine pure_ (i := 75) (N := some 160) (v := ?_) (a' := ?_) (tf 76 3) rfl rfl (any_of HT_.out (by kernel_rfl)) (fun _ _ _ h => h) (Or.inl ⟨by rfl, ?_⟩) ?_ ?_
     rotate_left
     ·intro w'
      go_simp
      with_reducible rfl
     rotate_left
     ·simp only [Act.put, List.setIfInBounds_toArray, List.set_cons_zero, List.set_cons_succ, i64_w, i32_w]
      rfl
     refine pure_ (i := 76) (N := some 161) (v := ?_) (a' := ?_) (tf 77 2) rfl rfl (any_of HT_.out (by kernel_rfl)) (fun _ _ _ h => h) (Or.inl ⟨by rfl, ?_⟩) ?_ ?_
     rotate_left
     ·intro w'
      go_simp
      with_reducible rfl
     rotate_left
     ·simp only [Act.put, List.setIfInBounds_toArray, List.set_cons_zero, List.set_cons_succ, i64_w, i32_w]
      rfl
     refine pure_ (i := 77) (N := some 162) (v := ?_) (a' := ?_) (tf 78 1) rfl rfl (any_of HT_.out (by kernel_rfl)) (fun _ _ _ h => h) (Or.inl ⟨by rfl, ?_⟩) ?_ ?_
     rotate_left
     ·intro w'
      go_simp
      with_reducible rfl
     rotate_left
     ·simp only [Act.put, List.setIfInBounds_toArray, List.set_cons_zero, List.set_cons_succ, i64_w, i32_w]
      rfl
     refine pure_ (i := 78) (N := some 8) (v := ?_) (a' := ?_) (tf 79 0) rfl rfl (any_of HT_.out (by kernel_rfl)) (fun _ _ _ h => h) (Or.inl ⟨by rfl, ?_⟩) ?_ ?_
     rotate_left
     ·intro w'
      go_simp
      with_reducible rfl
     rotate_left
     ·simp only [Act.put, List.setIfInBounds_toArray, List.set_cons_zero, List.set_cons_succ, i64_w, i32_w]
      rfl
     refine done_ (done_of HT_.out (by kernel_rfl)) ?_
     go_wp2
     go_ret
     exact ⟨rfl, below_step HB.out hHeld⟩
/-- What reads at type t reads as a value of kind K, of which Q holds. -/
structure Opens {α : Type} (P : Program) (t : TypeId) (K : Kd α) (Q : α → Prop) : Prop where
 out : ∀ {H : Type} {enc : TypeId × Value → H} {W : World} {base : Nat} {sp : Nat → Bool} {held : Bool} {fuel : Nat} {cs : List Value} {x : DataW H × List MemPlace},
  (∀ n ∈ x.1.weights P t, n ≤ reachBytes) → DataW.trod enc P W base sp held fuel t cs = some x → ∃ y, K.K W y cs ∧ Q y
section
variable {P : Program}
theorem opens_string {t : TypeId} (ht : P.underlying t = some .string) : Opens P t Kd.string (fun s => s.size ≤ 140737488351232) := by
 constructor
 intro H enc W base sp held fuel cs x hw h
 obtain ⟨s, rfl, rfl, hs⟩ : ∃ s : ByteArray, cs = [.string s] ∧ x = (.lit (.string s.data.toList), []) ∧ s.size ≤ maxLen := by
  cases fuel with
  | zero => simp [DataW.trod] at h
  | succ n =>
   unfold DataW.trod at h
   rw [ht] at h
   split at h <;> simp_all
 refine ⟨s, rfl, ?_⟩
 have := hw s.data.toList.length (by simp [DataW.weights])
 rw [Array.length_toList] at this
 exact this
theorem opens_int {t : TypeId} {q : IntKind} (ht : P.underlying t = some (.int q)) : Opens P t (Kd.int q) (fun n => (Lit.int q n).wf = true) := by
 constructor
 intro H enc W base sp held fuel cs x hw h
 obtain ⟨n, rfl, hs⟩ : ∃ n : Int, cs = [.int q n] ∧ (Lit.int q n).wf = true := by
  cases fuel with
  | zero => simp [DataW.trod] at h
  | succ n =>
   unfold DataW.trod at h
   rw [ht] at h
   split at h <;> simp_all
 exact ⟨n, rfl, hs⟩
theorem weights_all {H : Type} {e : TypeId} : ∀ {ds : List (DataW H)} {d : DataW H}, d ∈ ds → ∀ n ∈ d.weights P e, n ∈ DataW.weightsAll P e ds
 | d0 :: ds, d, hd, n, hn => by
  simp only [DataW.weightsAll, List.mem_append]
  rcases List.mem_cons.mp hd with rfl | h
  ·exact .inl hn
  ·exact .inr (weights_all h n hn)
theorem choose_list {α : Type} {p : Nat → α → Prop} : ∀ {n : Nat}, (∀ i, i < n → ∃ y, p i y) → ∃ ys : List α, ys.length = n ∧ ∀ i y, ys[i]? = some y → p i y
 | 0, _ => ⟨[], rfl, fun i y h => by simp at h⟩
 | n + 1, h => by
  obtain ⟨ys, hl, hy⟩ := choose_list (n := n) (fun i hi => h i (by omega))
  obtain ⟨y, hp⟩ := h n (by omega)
  refine ⟨ys ++ [y], by simp [hl], fun i z hz => ?_⟩
  by_cases hi : i < n
  ·rw [List.getElem?_append_left (by omega)] at hz
   exact hy i z hz
  ·have := (List.getElem?_eq_some_iff.mp hz).1
   simp at this
   have e : i = n := by omega
   subst e
   rw [List.getElem?_append_right (by omega)] at hz
   simp [hl] at hz
   subst hz
   exact hp
theorem opens_slice {α : Type} {t e : TypeId} {K : Kd α} {Q : α → Prop} (he : Opens P e K Q) (ht : P.underlying t = some (.slice e)) (hc : P.cellsOf e = K.sz) (bytes : Nat) (hb : P.bytesOf e = bytes) :
  Opens P t (Kd.slice e K) (fun l => l.length * bytes ≤ 140737488351232 ∧ ∀ x ∈ l, Q x) := by
 constructor
 intro H enc W base sp held fuel cs x hw h
 rcases Deep.open_slice ht h with ⟨rfl, rfl⟩ | ⟨a, len, cap, m, n, D, Pl, rfl, _, hl, hm, hmm, rfl, hel⟩
 ·exact ⟨[], ⟨none, 0, rfl, Nat.le_refl _, Kd.C_nil K W⟩, by simp, by simp⟩
 ·have hlm : len ≤ m := by rw [hmm]; split <;> omega
  have hw' : ∀ i, i < len → ∀ k ∈ (D i).weights P e, k ≤ reachBytes := fun i hi k hk => hw k (by
   simp only [DataW.weights, ht, List.mem_cons, List.mem_append]
   exact .inr (.inl (weights_all (List.mem_map.mpr ⟨i, by simpa using hi, rfl⟩) k hk)))
  obtain ⟨ys, hys, hY⟩ := choose_list (n := len) (p := fun i y => (∃ c, c.length = K.sz ∧ K.K W y c ∧ ∀ j u, c[j]? = some u → W.cell? (a.add (i * K.sz + j)) = some u) ∧ Q y) (fun i hi => by
   obtain ⟨c, h1, h2⟩ := hel i (by omega)
   obtain ⟨y, hy, hq⟩ := he.out (hw' i hi) h2
   obtain ⟨_, h3, h4⟩ := World.cells?_some h1
   rw [hc] at h3 h4
   refine ⟨y, ⟨c, h3, hy, fun j u hu => ?_⟩, hq⟩
   have hj : j < K.sz := by
    have := (List.getElem?_eq_some_iff.mp hu).1
    omega
   have h5 := h4 j hj
   rw [Addr.add_add] at h5
   rw [h5, hu])
  have hlen : len ≤ maxLen := by omega
  refine ⟨ys, ⟨some a, cap, by rw [hys], by omega, rfl, by rw [hys]; unfold maxLen at hlen; omega, fun _ => ⟨a, rfl, fun j p hj => (hY j p hj).1⟩⟩, ?_, ?_⟩
  ·have := hw ((((List.range len).map D).length + ((List.range (m - len)).map fun j => D (len + j)).length) * P.bytesOf e) (by simp [DataW.weights, ht])
   rw [hb] at this
   simp only [List.length_map, List.length_range] at this
   have h2 : len * bytes ≤ (len + (m - len)) * bytes := Nat.mul_le_mul_right _ (by omega)
   rw [hys]
   unfold reachBytes at this
   omega
  ·intro x hx
   obtain ⟨i, hi, rfl⟩ := List.mem_iff_getElem.mp hx
   exact (hY i _ (List.getElem?_eq_getElem hi)).2
/-- The fields from one on. -/
structure OpensF {α : Type} (P : Program) (fs : List Field) (off : Nat) (K : Kd α) (Q : α → Prop) : Prop where
 out : ∀ {H : Type} {enc : TypeId × Value → H} {W : World} {base : Nat} {sp : Nat → Bool} {held : Bool} {fuel : Nat} {cs : List Value} {xs : List (DataW H × List MemPlace)},
  cs.length = off + K.sz → (∀ n ∈ DataW.weightsEach P (fs.map (·.type)) (xs.map (·.1)), n ≤ reachBytes) → (fs.mapM fun f => DataW.trod enc P W base sp held fuel f.type ((cs.drop f.offset).take (P.cellsOf f.type))) = some xs → ∃ y, K.K W y (cs.drop off) ∧ Q y
theorem opensF_last {α : Type} {f : Field} {off t : Nat} {K : Kd α} {Q : α → Prop} (h : Opens P t K Q) (h0 : f.type = t) (hc : P.cellsOf t = K.sz) (ho : f.offset = off) : OpensF P [f] off K Q := by
 constructor
 intro H enc W base sp held fuel cs xs hl hw hm
 subst h0
 simp only [List.mapM_cons, List.mapM_nil, Option.pure_def, Option.bind_eq_bind, Option.bind_some] at hm
 obtain ⟨x, hx, hm⟩ := Option.bind_eq_some_iff.mp hm
 obtain rfl := Option.some.inj hm
 rw [hc, ho, List.take_of_length_le (by rw [List.length_drop]; omega)] at hx
 exact h.out (fun n hn => hw n (by simp [DataW.weightsEach, hn])) hx
theorem opensF_cons {α β : Type} {f : Field} {fs : List Field} {off t : Nat} {K : Kd α} {K1 : Kd β} {Q : α → Prop} {Q1 : β → Prop} (h : Opens P t K Q) (h0 : f.type = t) (hc : P.cellsOf t = K.sz) (ho : f.offset = off) (h1 : OpensF P fs (off + K.sz) K1 Q1) :
  OpensF P (f :: fs) off (Kd.pair K K1) (fun p => Q p.1 ∧ Q1 p.2) := by
 constructor
 intro H enc W base sp held fuel cs xs hl hw hm
 subst h0
 have hl : cs.length = off + (K.sz + K1.sz) := hl
 rw [List.mapM_cons] at hm
 simp only [Option.pure_def, Option.bind_eq_bind] at hm
 obtain ⟨x, hx, hm⟩ := Option.bind_eq_some_iff.mp hm
 obtain ⟨xs', hxs, hm⟩ := Option.bind_eq_some_iff.mp hm
 obtain rfl := Option.some.inj hm
 rw [hc, ho] at hx
 obtain ⟨y, hy, hq⟩ := h.out (fun n hn => hw n (by simp only [List.map_cons, DataW.weightsEach, List.mem_append]; exact .inl hn)) hx
 obtain ⟨z, hz, hq1⟩ := h1.out (by omega) (fun n hn => hw n (by simp only [List.map_cons, DataW.weightsEach, List.mem_append]; exact .inr hn)) hxs
 refine ⟨(y, z), ⟨(cs.drop off).take K.sz, cs.drop (off + K.sz), ?_, hy, hz⟩, hq, hq1⟩
 rw [← List.drop_drop, List.take_append_drop]
theorem opens_struct {α β : Type} {t : TypeId} {fs : Array Field} {K : Kd α} {Q : α → Prop} (ht : P.underlying t = some (.struct fs)) (h : OpensF P fs.toList 0 K Q) (hc : P.cellsOf t = K.sz) (g : β → α) (g' : α → β) (hg : ∀ y, g (g' y) = y) : Opens P t (Kd.iso K g) (fun x => Q (g x)) := by
 constructor
 intro H enc W base sp held fuel cs x hw hm
 cases fuel with
 | zero => simp [DataW.trod] at hm
 | succ n =>
  unfold DataW.trod at hm
  rw [ht] at hm
  simp only at hm
  split at hm
  ·rename_i hl
   obtain ⟨xs, hxs, rfl⟩ := Option.map_eq_some_iff.mp hm
   obtain ⟨y, hy, hq⟩ := h.out (cs := cs) (xs := xs) (by rw [hl, hc]; omega) (fun n hn => hw n (by simp only [DataW.weights, ht]; exact hn)) hxs
   exact ⟨g' y, by show K.K W (g (g' y)) cs; rw [hg]; simpa using hy, by show Q (g (g' y)); rw [hg]; exact hq⟩
  ·cases hm
theorem opens_struct' {α β : Type} {t : TypeId} {fs : Array Field} {K : Kd α} {Q : α → Prop} {k : Kd β} {WF : β → Prop} (g' : α → β) (g : β → α) (ht : P.underlying t = some (.struct fs)) (h : OpensF P fs.toList 0 K Q) (hc : P.cellsOf t = K.sz) (hk : k = Kd.iso K g) (hg : ∀ y, g (g' y) = y) (hQ : ∀ x, Q (g x) → WF x) : Opens P t k WF := by
 subst hk
 constructor
 intro H enc W base sp held fuel cs x hw hm
 obtain ⟨y, h1, h2⟩ := (opens_struct ht h hc g g' hg).out hw hm
 exact ⟨y, h1, hQ y h2⟩
end
def WF24 (x : S24) : Prop := ((fun n : Int => (Lit.int .i64 n).wf = true) x.f0) ∧ ((fun n : Int => (Lit.int .i64 n).wf = true) x.f1) ∧ ((fun s : ByteArray => s.size ≤ 140737488351232) x.f2)
theorem opens24 : Opens Tryd.prog 24 k24 WF24 :=
 opens_struct' (fun p : (Int) × (Int) × (ByteArray) => (⟨p.1, p.2.1, p.2.2⟩ : S24)) (fun x : S24 => (x.f0, x.f1, x.f2)) Tryd.underlying24 (opensF_cons (opens_int Tryd.underlying3) rfl (by kernel_rfl) rfl (opensF_cons (opens_int Tryd.underlying3) rfl (by kernel_rfl) rfl (opensF_last (opens_string Tryd.underlying9) rfl (by kernel_rfl) rfl))) (by kernel_rfl) rfl (fun _ => rfl) (fun _ h => h)
noncomputable def NodeSets.Pure : Prop := ∀ (l0 : List (S24)) (l1 : List (S24)) (a2_0 : Int) (a2_1 : Int) (a2_2 : ByteArray) (a3 : ByteArray), (fun l : List (S24) => l.length * 32 ≤ 140737488351232 ∧ ∀ x ∈ l, WF24 x) l0 → (fun l : List (S24) => l.length * 32 ≤ 140737488351232 ∧ ∀ x ∈ l, WF24 x) l1 → WF24 ⟨a2_0, a2_1, a2_2⟩ → (fun s : ByteArray => s.size ≤ 140737488351232) a3 → ∃ k, truantlaw18_NodeSets.f k l0 l1 a2_0 a2_1 a2_2 a3 = some true
theorem wf_nd {x : Nd} (h : WF24 x) : ndW x := ⟨h.1, h.2.1, by have := h.2.2; show x.f2.size ≤ maxLen; unfold maxLen; omega⟩
theorem NodeSets_pure : NodeSets.Pure := by
 intro l0 l1 a0 a1 a2 a3 h0 h1 h2 h3
 have hd : decB ((∀ x ∈ l0, ndW x) ∧ (∀ x ∈ l1, ndW x) ∧ ndW ⟨a0, a1, a2⟩) = true := decB_true ⟨fun x hx => wf_nd (h0.2 x hx), fun x hx => wf_nd (h1.2 x hx), wf_nd h2⟩
 have : truantlaw18_NodeSets.f 0 l0 l1 a0 a1 a2 a3 = some true := by unfold truantlaw18_NodeSets.f; rw [hd, if_pos rfl]
 first | exact this | exact ⟨0, this⟩
end Go.Proofs.YtgidnkmlnccaiaaDoor.Q
