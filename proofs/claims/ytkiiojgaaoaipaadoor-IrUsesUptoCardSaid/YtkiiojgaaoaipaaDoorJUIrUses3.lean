/- What the row of UIrUses rests on, part 3: contracts of the functions that it reaches, and the plain law. -/
import Derived.Test.YtkiiojgaaoaipaaDoorJUIrUses2
namespace Go.Proofs.YtkiiojgaaoaipaaDoor.Q
open Go.RowKit Go.Proofs.YtkiiojgaaoaipaaDoorW.PrintWords Go.Proofs.YtkiiojgaaoaipaaDoorW.PrintLast Go.Proofs.YtkiiojgaaoaipaaDoorW.PrintMore
attribute [local go_sem] max2_int min2_int max_two min_two max_three min_three max_four min_four   -- for this text's walks alone
set_option linter.unusedVariables false
set_option linter.unusedSimpArgs false
/-! ### ir_cloneFun: function 44 -/
mutual
def ir_cloneFun.l0 : Nat → List (S47) → Int → Int → ByteArray → List ByteArray → ByteArray → List ByteArray → List (S47) → List (S53) → ByteArray → List ByteArray → ByteArray → List ByteArray → List (S47) → Option (ByteArray × List ByteArray × ByteArray × List ByteArray × (List (S47)) × (List (S53)))
 | 0, _, _, _, _, _, _, _, _, _, _, _, _, _, _ => none
 | k + 1, x20, x21, x22, x388000, x388001, x388002, x388003, x388004, x388005, x396000, x396001, x396002, x396003, x396004 => if x22 < x21 then (if 0 ≤ x22 then (if x22 < (x20.length : Int) then ((slices_Clone_int_int.f ((rd_T47 x20 x22).f2)).bind fun t398 => (if x396004.length < 1954687338268 then (ir_cloneFun.l0 k x20 x21 (wrap64 (x22 + 1)) x388000 x388001 x388002 x388003 x388004 x388005 x396000 x396001 x396002 x396003 (x396004 ++ [(⟨(rd_T47 x20 x22).f0, (rd_T47 x20 x22).f1, t398, (rd_T47 x20 x22).f3, (rd_T47 x20 x22).f4⟩ : S47)])) else (none))) else (none)) else (none)) else (ir_cloneFun.l1 k x388005 (x388005.length : Int) 0 x396000 x396001 x396002 x396003 x396004 ([] : List (S53)))
def ir_cloneFun.l1 : Nat → List (S53) → Int → Int → ByteArray → List ByteArray → ByteArray → List ByteArray → List (S47) → List (S53) → Option (ByteArray × List ByteArray × ByteArray × List ByteArray × (List (S47)) × (List (S53)))
 | 0, _, _, _, _, _, _, _, _, _ => none
 | k + 1, x38, x39, x40, x396000, x396001, x396002, x396003, x396004, x396005 => if x40 < x39 then (if 0 ≤ x40 then (if x40 < (x38.length : Int) then ((slices_Clone_int_int.f ((rd_T53 x38 x40).f0)).bind fun t406 => (if x396005.length < 2513169434916 then (ir_cloneFun.l1 k x38 x39 (wrap64 (x40 + 1)) x396000 x396001 x396002 x396003 x396004 (x396005 ++ [(⟨t406, (rd_T53 x38 x40).f1, (rd_T53 x38 x40).f2, (⟨(rd_T53 x38 x40).f3.f0, (rd_T53 x38 x40).f3.f1⟩ : S51)⟩ : S53)])) else (none))) else (none)) else (none)) else (some (x396000, x396001, x396002, x396003, x396004, x396005))
end
def ir_cloneFun.f (k : Nat) (a0_0 : ByteArray) (l0_1 : List ByteArray) (a0_2 : ByteArray) (l0_3 : List ByteArray) (l0_4 : List (S47)) (l0_5 : List (S53)) : Option (ByteArray × List ByteArray × ByteArray × List ByteArray × (List (S47)) × (List (S53))) := (slices_Clone_string_string.f l0_1).bind fun t389 => ((slices_Clone_string_string.f l0_3).bind fun t392 => (ir_cloneFun.l0 k l0_4 (l0_4.length : Int) 0 a0_0 l0_1 a0_2 l0_3 l0_4 l0_5 a0_0 t389 a0_2 t392 ([] : List (S47))))
theorem ir_cloneFun.mono_l : ∀ k, (∀ y0 y1 y2 y3 y4 y5 y6 y7 y8 y9 y10 y11 y12 y13, LeO (ir_cloneFun.l0 k y0 y1 y2 y3 y4 y5 y6 y7 y8 y9 y10 y11 y12 y13) (ir_cloneFun.l0 (k + 1) y0 y1 y2 y3 y4 y5 y6 y7 y8 y9 y10 y11 y12 y13)) ∧ (∀ y0 y1 y2 y3 y4 y5 y6 y7 y8, LeO (ir_cloneFun.l1 k y0 y1 y2 y3 y4 y5 y6 y7 y8) (ir_cloneFun.l1 (k + 1) y0 y1 y2 y3 y4 y5 y6 y7 y8))
 | 0 => ⟨fun _ _ _ _ _ _ _ _ _ _ _ _ _ _ r h => by simp [ir_cloneFun.l0] at h, fun _ _ _ _ _ _ _ _ _ r h => by simp [ir_cloneFun.l1] at h⟩
 | k + 1 => by
  obtain ⟨ih0, ih1⟩ := ir_cloneFun.mono_l k
  refine ⟨?_, ?_⟩
  ·intro y0 y1 y2 y3 y4 y5 y6 y7 y8 y9 y10 y11 y12 y13
   unfold ir_cloneFun.l0
   repeat' first
   | (with_reducible exact ih0 _ _ _ _ _ _ _ _ _ _ _ _ _ _)
   | (with_reducible exact ih1 _ _ _ _ _ _ _ _ _)
   | (with_reducible exact LeO.refl _)
   | (with_reducible refine LeO.ite ?_ ?_)
   | (with_reducible refine LeO.bind ?_ (fun _ => ?_))
  ·intro y0 y1 y2 y3 y4 y5 y6 y7 y8
   unfold ir_cloneFun.l1
   repeat' first
   | (with_reducible exact ih1 _ _ _ _ _ _ _ _ _)
   | (with_reducible exact LeO.refl _)
   | (with_reducible refine LeO.ite ?_ ?_)
   | (with_reducible refine LeO.bind ?_ (fun _ => ?_))
theorem ir_cloneFun.mono : ∀ a0 a1 a2 a3 a4 a5 k, LeO (ir_cloneFun.f k a0 a1 a2 a3 a4 a5) (ir_cloneFun.f (k + 1) a0 a1 a2 a3 a4 a5) := by
 intro a0 a1 a2 a3 a4 a5 k
 obtain ⟨ih0, ih1⟩ := ir_cloneFun.mono_l k
 unfold ir_cloneFun.f
 repeat' first
   | (with_reducible exact ih0 _ _ _ _ _ _ _ _ _ _ _ _ _ _)
   | (with_reducible exact LeO.refl _)
   | (with_reducible refine LeO.bind ?_ (fun _ => ?_))
def ir_cloneFun.T1 : Bool × List (List Nat × List Nat) := (true, [([], []), ([0], [0]), ([], []), ([2], [2]), ([3], [3]), ([], []), ([5], [5]), ([], []), ([7], [7]), ([8, 4], [8]), ([1, 4, 6, 9], [1, 4, 6, 9]), ([], []), ([11, 10, 9, 0, 1, 2, 3, 4, 5, 6, 7, 8, 9, 10, 11], [10, 11])])
def ir_cloneFun.B1 : List Nat := [0, 1, 0, 4, 12, 0, 32, 0, 128, 412, 1023, 0, 4095]
theorem ir_cloneFun.tab1 : rtab .any (opsOf Tryd.f44 1) = ir_cloneFun.T1 := by kernel_rfl
theorem ir_cloneFun.bits1 : waitsOk ir_cloneFun.T1.2 ir_cloneFun.B1 = true := by kernel_rfl
set_option maxHeartbeats 8000000 in
set_option maxRecDepth 100000 in
theorem ir_cloneFun.calls (k : Nat) (a0_0 : ByteArray) (A0_1 : Option Addr) (c0_1 : Nat) (l0_1 : List ByteArray) (a0_2 : ByteArray) (A0_3 : Option Addr) (c0_3 : Nat) (l0_3 : List ByteArray) (A0_4 : Option Addr) (c0_4 : Nat) (l0_4 : List (S47)) (A0_5 : Option Addr) (c0_5 : Nat) (l0_5 : List (S53)) (r1 : ByteArray) (r2 : List ByteArray) (r3 : ByteArray) (r4 : List ByteArray) (r5 : List (S47)) (r6 : List (S53)) (w : World) (hr0_1 : Kd.C Kd.string w A0_1 l0_1.length l0_1) (hc0_1 : l0_1.length ≤ c0_1) (hr0_3 : Kd.C Kd.string w A0_3 l0_3.length l0_3) (hc0_3 : l0_3.length ≤ c0_3) (hr0_4 : Kd.C k47 w A0_4 l0_4.length l0_4) (hc0_4 : l0_4.length ≤ c0_4) (hr0_5 : Kd.C k53 w A0_5 l0_5.length l0_5) (hc0_5 : l0_5.length ≤ c0_5) (h : ir_cloneFun.f k a0_0 l0_1 a0_2 l0_3 l0_4 l0_5 = some (r1, r2, r3, r4, r5, r6)) :
  Calls Tryd.prog 44 #[.agg #[.string a0_0, .slice A0_1 l0_1.length c0_1, .string a0_2, .slice A0_3 l0_3.length c0_3, .slice A0_4 l0_4.length c0_4, .slice A0_5 l0_5.length c0_5]] w fun e w' => ∃ v1_ v3_ v4_ v5_ : Value, e = .returned (.agg #[.string r1, v1_, .string r3, v3_, v4_, v5_]) ∧ Kd.R Kd.string 9 w' w.heap.size (fun k_ => some k_ ≠ (v3_ : Value).ownBlock) v1_ r2 ∧ Kd.R Kd.string 9 w' w.heap.size (fun k_ => some k_ ≠ (v1_ : Value).ownBlock) v3_ r4 ∧ Kd.S k47 47 w' w.heap.size (fun _ => True) v4_ r5 ∧ Kd.S k53 53 w' w.heap.size (fun _ => True) v5_ r6 ∧ Below w.heap.size w w' := by
 have hu40 := Tryd.underlying40
 have hu47 := Tryd.underlying47
 have hu53 := Tryd.underlying53
 have HR0_1 := Aside0.mk hr0_1
 have HC0_1 := Aside0.mk hc0_1
 clear hr0_1 hc0_1
 have HR0_3 := Aside0.mk hr0_3
 have HC0_3 := Aside0.mk hc0_3
 clear hr0_3 hc0_3
 have HR0_4 := Aside0.mk hr0_4
 have HC0_4 := Aside0.mk hc0_4
 clear hr0_4 hc0_4
 have HR0_5 := Aside0.mk hr0_5
 have HC0_5 := Aside0.mk hc0_5
 clear hr0_5 hc0_5
 have HB := Aside0.mk (Below.refl w.heap.size w)
 have H : ((slices_Clone_string_string.f l0_1).bind fun t389 => ((slices_Clone_string_string.f l0_3).bind fun t392 => (ir_cloneFun.l0 k l0_4 (l0_4.length : Int) 0 a0_0 l0_1 a0_2 l0_3 l0_4 l0_5 a0_0 t389 a0_2 t392 ([] : List (S47))))) = some (r1, r2, r3, r4, r5, r6) := h
 clear h
 replace H := Option.bind_eq_some_iff.mp H
 obtain ⟨t389, A20, H⟩ := H
 (try dsimp only at H)
 have A2 := Aside0.mk A20
 clear A20
 replace H := Option.bind_eq_some_iff.mp H
 obtain ⟨t392, A30, H⟩ := H
 (try dsimp only at H)
 have A3 := Aside0.mk A30
 clear A30
 have H' := Aside0.mk H
 clear H
 go_enter Tryd.func44, Tryd.ntmps44
 try go_wp2_with (first | ((with_reducible refine gate_dst (N := 1) rfl ?_); refine box_event ?hg (N := 1) ?hd (cs := #[.string a0_0, .slice A0_1 l0_1.length c0_1, .string a0_2, .slice A0_3 l0_3.length c0_3, .slice A0_4 l0_4.length c0_4, .slice A0_5 l0_5.length c0_5]) (t := 40) ?hr ?_; (case hd => rfl); (case hg => rfl); (case hr => first | (go_simp; done) | (go_simp; rfl)); intro gb387 hg w4 hbox hb; have n0_ := Aside0.mk (below_step (bq51) hb); have n1_ := Aside0.mk (hbox); have n2_ := Aside0.mk ((bq35 : w.heap.size ≤ gb387)); have n3_ := Aside0.mk ((bq35 : w.heap.size ≤ gb387)); clear HB; have HB := n0_; have BK387 := n1_; have GW387 := n2_; have GE387 := n3_; clear n0_ n1_ n2_ n3_ hb hbox hg) | ((with_reducible refine gate_dst (N := 2) rfl ?_); refine box_event ?hg (N := 2) ?hd (cs := #[.string (⟨#[]⟩ : ByteArray), .slice none 0 0, .string (⟨#[]⟩ : ByteArray), .slice none 0 0, .slice none 0 0, .slice none 0 0]) (t := 40) ?hr ?_; (case hd => rfl); (case hg => rfl); (case hr => first | (go_simp; done) | (go_simp; rfl)); intro gb388 hg w5 hbox hb; have n0_ := Aside0.mk (blkB BK387.out hb); have n1_ := Aside0.mk (below_step (by repeat (first | (with_reducible first | exact HB.out | apply below_alloc | apply pw_below_drewN | apply below_drew1 | refine below_set ?_ GE387.out) | exact HB.out)) hb); have n2_ := Aside0.mk (hbox); have n3_ := Aside0.mk ((bq23 : w.heap.size ≤ gb388)); have n4_ := Aside0.mk ((bq23 : w.heap.size ≤ gb388)); have n5_ := Aside0.mk ((bq89 : gb387 ≠ gb388)); have n6_ := Aside0.mk ((bq90 : gb388 ≠ gb387)); clear BK387 HB; have BK387 := n0_; have HB := n1_; have BK388 := n2_; have GW388 := n3_; have GE388 := n4_; have NB387_388 := n5_; have NB388_387 := n6_; clear n0_ n1_ n2_ n3_ n4_ n5_ n6_ hb hbox hg))
 have n0_ := Aside0.mk (blk_drew BK387.out)
 have n1_ := Aside0.mk (blk_drew BK388.out)
 have n2_ := Aside0.mk (below_drew1 HB.out)
 clear BK387 BK388 HB
 have BK387 := n0_
 have BK388 := n1_
 have HB := n2_
 clear n0_ n1_ n2_
 refine start_ (n := 13) (S := fun w' => w'.cell? ⟨gb387, 0, none⟩ = some (.string a0_0) ∧ w'.cell? ⟨gb387, 1, none⟩ = some (.slice A0_1 l0_1.length c0_1) ∧ w'.cell? ⟨gb387, 2, none⟩ = some (.string a0_2) ∧ w'.cell? ⟨gb387, 3, none⟩ = some (.slice A0_3 l0_3.length c0_3) ∧ w'.cell? ⟨gb387, 4, none⟩ = some (.slice A0_4 l0_4.length c0_4) ∧ w'.cell? ⟨gb387, 5, none⟩ = some (.slice A0_5 l0_5.length c0_5)) (ds := []) (tf 0 13) (by kernel_rfl) rfl rfl ⟨(blk_cell BK387.out 0).trans rfl, (blk_cell BK387.out 1).trans rfl, (blk_cell BK387.out 2).trans rfl, (blk_cell BK387.out 3).trans rfl, (blk_cell BK387.out 4).trans rfl, (blk_cell BK387.out 5).trans rfl⟩ (fun hHeld => ?_); refine with_tabW ir_cloneFun.tab1 ir_cloneFun.bits1 (fun HT_ HW_ => ?_)
 generalize w5.drew = w6 at BK387 BK388 HB hHeld ⊢
 refine pure_ (i := 0) (N := some 8) (v := ?_) (a' := ?_) (tf 1 12) rfl rfl (any_of HT_.out (by kernel_rfl)) (fun _ _ _ h => h) (Or.inl ⟨by rfl, ?_⟩) ?_ ?_
 rotate_left
 ·intro w'
  go_simp
  with_reducible rfl
 rotate_left
 ·simp only [Act.put, List.setIfInBounds_toArray, List.set_cons_zero, List.set_cons_succ, i64_w, i32_w]
  rfl
 refine pure_ (i := 2) (N := some 10) (v := ?_) (a' := ?_) #[true, false, true, false, false, false, false, false, false, false, false, false, false] rfl rfl (any_of HT_.out (by kernel_rfl)) (fun _ _ _ h => h) (Or.inl ⟨by rfl, ?_⟩) ?_ ?_
 rotate_left
 ·intro w'
  go_simp
  with_reducible rfl
 rotate_left
 ·simp only [Act.put, List.setIfInBounds_toArray, List.set_cons_zero, List.set_cons_succ, i64_w, i32_w]
  rfl
 refine pure_ (i := 5) (N := some 13) (v := ?_) (a' := ?_) #[true, false, true, false, false, true, false, false, false, false, false, false, false] rfl rfl (any_of HT_.out (by kernel_rfl)) (fun _ _ _ h => h) (Or.inl ⟨by rfl, ?_⟩) ?_ ?_
 rotate_left
 ·intro w'
  go_simp
  with_reducible rfl
 rotate_left
 ·simp only [Act.put, List.setIfInBounds_toArray, List.set_cons_zero, List.set_cons_succ, i64_w, i32_w]
  rfl
 refine pure_ (i := 7) (N := some 15) (v := ?_) (a' := ?_) #[true, false, true, false, false, true, false, true, false, false, false, false, false] rfl rfl (any_of HT_.out (by kernel_rfl)) (fun _ _ _ h => h) (Or.inl ⟨by rfl, ?_⟩) ?_ ?_
 rotate_left
 ·intro w'
  go_simp
  with_reducible rfl
 rotate_left
 ·simp only [Act.put, List.setIfInBounds_toArray, List.set_cons_zero, List.set_cons_succ, i64_w, i32_w]
  rfl
 refine take_ (i := 1) (N := some 9) (v := ?_) (a' := ?_) #[true, true, true, false, false, true, false, true, false, false, false, false, false] rfl rfl (take_ofW HT_.out HW_.out (by kernel_rfl)) (fun _ _ _ h => h) (Or.inl ⟨by rfl, ?_⟩) hHeld ?_ ?_
 rotate_left
 ·rintro w' ⟨s0, s1, s2, s3, s4, s5⟩
  go_simp
  with_reducible rfl
 rotate_left
 ·simp only [Act.put, List.setIfInBounds_toArray, List.set_cons_zero, List.set_cons_succ, i64_w, i32_w]
  rfl
 refine take_ (i := 3) (N := some 11) (v := ?_) (a' := ?_) #[true, true, true, true, false, true, false, true, false, false, false, false, false] rfl rfl (take_ofW HT_.out HW_.out (by kernel_rfl)) (fun _ _ _ h => h) (Or.inl ⟨by rfl, ?_⟩) hHeld ?_ ?_
 rotate_left
 ·rintro w' ⟨s0, s1, s2, s3, s4, s5⟩
  go_simp
  with_reducible rfl
 rotate_left
 ·simp only [Act.put, List.setIfInBounds_toArray, List.set_cons_zero, List.set_cons_succ, i64_w, i32_w]
  rfl
 refine take_ (i := 6) (N := some 14) (v := ?_) (a' := ?_) #[true, true, true, true, false, true, true, true, false, false, false, false, false] rfl rfl (take_ofW HT_.out HW_.out (by kernel_rfl)) (fun _ _ _ h => h) (Or.inl ⟨by rfl, ?_⟩) hHeld ?_ ?_
 rotate_left
 ·rintro w' ⟨s0, s1, s2, s3, s4, s5⟩
  go_simp
  with_reducible rfl
 rotate_left
 ·simp only [Act.put, List.setIfInBounds_toArray, List.set_cons_zero, List.set_cons_succ, i64_w, i32_w]
  rfl
 refine take_ (i := 8) (N := some 16) (v := ?_) (a' := ?_) #[true, true, true, true, false, true, true, true, true, false, false, false, false] rfl rfl (take_ofW HT_.out HW_.out (by kernel_rfl)) (fun _ _ _ h => h) (Or.inl ⟨by rfl, ?_⟩) hHeld ?_ ?_
 rotate_left
 ·rintro w' ⟨s0, s1, s2, s3, s4, s5⟩
  go_simp
  with_reducible rfl
 rotate_left
 ·simp only [Act.put, List.setIfInBounds_toArray, List.set_cons_zero, List.set_cons_succ, i64_w, i32_w]
  rfl
 refine join_ (σ := Value × Value × Nat) 1 (tf 12 1) (fun s_ => [(12, s_.1), (17, s_.2.1), (3, .pointer (some ⟨s_.2.2, 0, none⟩)), (18, .agg #[.string a0_0, s_.1, .string a0_2, s_.2.1, .slice none 0 0, .slice none 0 0])]) (fun s_ w' => (w'.cell? ⟨gb387, 0, none⟩ = some (.string a0_0) ∧ w'.cell? ⟨gb387, 1, none⟩ = some (.slice A0_1 l0_1.length c0_1) ∧ w'.cell? ⟨gb387, 2, none⟩ = some (.string a0_2) ∧ w'.cell? ⟨gb387, 3, none⟩ = some (.slice A0_3 l0_3.length c0_3) ∧ w'.cell? ⟨gb387, 4, none⟩ = some (.slice A0_4 l0_4.length c0_4) ∧ w'.cell? ⟨gb387, 5, none⟩ = some (.slice A0_5 l0_5.length c0_5)) ∧ (Kd.R Kd.string 9 w' w.heap.size (fun k_ => some k_ ≠ (s_.2.1 : Value).ownBlock) s_.1 t389) ∧ (Kd.R Kd.string 9 w' w.heap.size (fun k_ => some k_ ≠ (s_.1 : Value).ownBlock) s_.2.1 t392) ∧ (w'.heap[gb387]? = some (.cells #[.string a0_0, .slice A0_1 l0_1.length c0_1, .string a0_2, .slice A0_3 l0_3.length c0_3, .slice A0_4 l0_4.length c0_4, .slice A0_5 l0_5.length c0_5] 40 (0, 0))) ∧ (w'.heap[gb388]? = some (.cells #[.string (⟨#[]⟩ : ByteArray), .slice none 0 0, .string (⟨#[]⟩ : ByteArray), .slice none 0 0, .slice none 0 0, .slice none 0 0] 40 (0, 0))) ∧ (w'.heap[s_.2.2]? = some (.cells #[.string (⟨#[]⟩ : ByteArray), .slice none 0 0, .string (⟨#[]⟩ : ByteArray), .slice none 0 0, .slice none 0 0, .slice none 0 0] 40 (0, 0))) ∧ (w.heap.size ≤ s_.2.2) ∧ (w.heap.size ≤ s_.2.2) ∧ (gb387 ≠ s_.2.2) ∧ (s_.2.2 ≠ gb387) ∧ (gb388 ≠ s_.2.2) ∧ (s_.2.2 ≠ gb388) ∧ (Below w.heap.size w w')) ?_ ?_
 rotate_left
 ·intro hCont
  refine two_ (i := 4) (j := 11) (Ni := some 12) (Nj := some 3) (tf 9 4) #[true, true, true, true, false, true, true, true, true, false, false, true, false] rfl rfl rfl rfl (two_of HT_.out (by kernel_rfl)) (by decide) (by decide) (fun K hK => ?_) (fun K hK => ?_)
  ·skip
   refine goes_ Tryd.func60 (by kernel_rfl) rfl #[.slice A0_1 l0_1.length c0_1] (by rfl) rfl rfl (bq48) ?_
   with_reducible refine (slices_Clone_string_string.calls _ _ l0_1 t389 _ ?side1 ?side2 A2.out).mono ?_
   (case side1 => repeat (first | exact (Kd.C_below HR0_1.out HB.out) | (with_reducible refine Kd.C_alloc ?_ _) | (with_reducible refine Kd.C_drewN ?_ _) | (with_reducible refine Kd.C_drew ?_)))
   (case side2 => exact HC0_1.out)
   rintro e w7 ⟨v390, rfl, ho0, hb⟩
   refine ⟨_, rfl, ?_⟩
   have n0_ := Aside0.mk (Kd.R_lower ho0 (below_size (bq33)))
   have n1_ := Aside0.mk (blkB BK387.out hb)
   have n2_ := Aside0.mk (blkB BK388.out hb)
   have n3_ := Aside0.mk (below_step (bq33) hb)
   clear BK387 BK388 HB
   have HO391 := n0_
   have BK387 := n1_
   have BK388 := n2_
   have HB := n3_
   clear n0_ n1_ n2_ n3_ hb ho0
   refine hK.out _ _ ⟨(blk_cell BK387.out 0).trans rfl, (blk_cell BK387.out 1).trans rfl, (blk_cell BK387.out 2).trans rfl, (blk_cell BK387.out 3).trans rfl, (blk_cell BK387.out 4).trans rfl, (blk_cell BK387.out 5).trans rfl⟩ (fun hHeld => ?_)
   clear hK K
   refine norm_ (a' := ?_) ?_ ?_
   rotate_left
   ·show Act.put _ (some 12) _ = _
    simp only [Act.put, List.setIfInBounds_toArray, List.set_cons_zero, List.set_cons_succ, i64_w, i32_w]
    rfl
   refine two_ (i := 9) (j := 11) (Ni := some 17) (Nj := some 3) (tf 10 3) #[true, true, true, true, true, true, true, true, true, false, false, true, false] rfl rfl rfl rfl (two_of HT_.out (by kernel_rfl)) (by decide) (by decide) (fun K hK => ?_) (fun K hK => ?_)
   ·skip
    refine goes_ Tryd.func60 (by kernel_rfl) rfl #[.slice A0_3 l0_3.length c0_3] (by rfl) rfl rfl (bq48) ?_
    with_reducible refine (slices_Clone_string_string.calls _ _ l0_3 t392 _ ?side1 ?side2 A3.out).mono ?_
    (case side1 => repeat (first | exact (Kd.C_below HR0_3.out HB.out) | (with_reducible refine Kd.C_alloc ?_ _) | (with_reducible refine Kd.C_drewN ?_ _) | (with_reducible refine Kd.C_drew ?_)))
    (case side2 => exact HC0_3.out)
    rintro e w8 ⟨v393, rfl, ho0, hb⟩
    refine ⟨_, rfl, ?_⟩
    have n0_ := Aside0.mk (Kd.R_elder' (bq68) (Kd.R_base ho0) hb)
    have n1_ := Aside0.mk (Kd.R_lower (Kd.R_new' ho0 (Kd.R_lt (bq68))) (below_size (bq33)))
    have n2_ := Aside0.mk (blkB BK387.out hb)
    have n3_ := Aside0.mk (blkB BK388.out hb)
    have n4_ := Aside0.mk (below_step (bq33) hb)
    clear HO391 BK387 BK388 HB
    have HO391 := n0_
    have HO394 := n1_
    have BK387 := n2_
    have BK388 := n3_
    have HB := n4_
    clear n0_ n1_ n2_ n3_ n4_ hb ho0
    obtain ⟨Ao9, co9, eo9⟩ := Kd.R_slice HO394.out
    (first | subst eo9 | (injection eo9 with f1_ f2_ f3_; have f4_ := f1_.symm; have f5_ := f3_.symm; clear f1_ f2_ f3_; subst f4_; subst f5_))
    obtain ⟨Ao10, co10, eo10⟩ := Kd.R_slice HO391.out
    (first | subst eo10 | (injection eo10 with f1_ f2_ f3_; have f4_ := f1_.symm; have f5_ := f3_.symm; clear f1_ f2_ f3_; subst f4_; subst f5_))
    refine hK.out _ _ ⟨(blk_cell BK387.out 0).trans rfl, (blk_cell BK387.out 1).trans rfl, (blk_cell BK387.out 2).trans rfl, (blk_cell BK387.out 3).trans rfl, (blk_cell BK387.out 4).trans rfl, (blk_cell BK387.out 5).trans rfl⟩ (fun hHeld => ?_)
    clear hK K
    refine norm_ (a' := ?_) ?_ ?_
    rotate_left
    ·show Act.put _ (some 17) _ = _
     simp only [Act.put, List.setIfInBounds_toArray, List.set_cons_zero, List.set_cons_succ, i64_w, i32_w]
     rfl
    refine pure_ (i := 10) (N := some 18) (v := ?_) (a' := ?_) (tf 11 2) rfl rfl (any_of HT_.out (by kernel_rfl)) (fun _ _ _ h => h) (Or.inl ⟨by rfl, ?_⟩) ?_ ?_
    rotate_left
    ·intro w'
     go_simp
     with_reducible rfl
    rotate_left
    ·simp only [Act.put, List.setIfInBounds_toArray, List.set_cons_zero, List.set_cons_succ, i64_w, i32_w]
     rfl
    refine one_ (i := 11) (N := some 3) (tf 12 1) rfl rfl (one_of HT_.out (by kernel_rfl)) (by decide) (fun K hK => ?_)
    refine box_step ?hg (N := 3) ?hd (cs := #[.string (⟨#[]⟩ : ByteArray), .slice none 0 0, .string (⟨#[]⟩ : ByteArray), .slice none 0 0, .slice none 0 0, .slice none 0 0]) (t := 40) ?hr ?_; (case hd => rfl); (case hg => rfl); (case hr => first | (go_simp; done) | (go_simp; rfl))
    intro gb395 hg w11 hbox hb
    have n0_ := Aside0.mk (Kd.R_below (bq68) hb)
    have n1_ := Aside0.mk (Kd.R_below (by (with_reducible repeat (first | apply Kd.R_alloc | apply Kd.R_drewN | apply Kd.R_drew)); exact HO394.out) hb)
    have n2_ := Aside0.mk (blkB BK387.out hb)
    have n3_ := Aside0.mk (blkB BK388.out hb)
    have n4_ := Aside0.mk (below_step (bq33) hb)
    have n5_ := Aside0.mk (hbox)
    have n6_ := Aside0.mk ((bq9 : w.heap.size ≤ gb395))
    have n7_ := Aside0.mk ((bq9 : w.heap.size ≤ gb395))
    have n8_ := Aside0.mk ((bq89 : gb387 ≠ gb395))
    have n9_ := Aside0.mk ((bq90 : gb395 ≠ gb387))
    have n10_ := Aside0.mk ((bq91 : gb388 ≠ gb395))
    have n11_ := Aside0.mk ((bq92 : gb395 ≠ gb388))
    clear HO391 HO394 BK387 BK388 HB
    have HO391 := n0_
    have HO394 := n1_
    have BK387 := n2_
    have BK388 := n3_
    have HB := n4_
    have BK395 := n5_
    have GW395 := n6_
    have GE395 := n7_
    have NB387_395 := n8_
    have NB395_387 := n9_
    have NB388_395 := n10_
    have NB395_388 := n11_
    clear n0_ n1_ n2_ n3_ n4_ n5_ n6_ n7_ n8_ n9_ n10_ n11_ hb hbox hg
    refine hK.out _ _ ⟨(blk_cell BK387.out 0).trans rfl, (blk_cell BK387.out 1).trans rfl, (blk_cell BK387.out 2).trans rfl, (blk_cell BK387.out 3).trans rfl, (blk_cell BK387.out 4).trans rfl, (blk_cell BK387.out 5).trans rfl⟩ (fun hHeld => ?_)
    clear hK K
    refine norm_ (a' := ?_) ?_ ?_
    rotate_left
    ·show Act.put _ (some 3) _ = _
     simp only [Act.put, List.setIfInBounds_toArray, List.set_cons_zero, List.set_cons_succ, i64_w, i32_w]
     rfl
    exact norm_ (bq75) (hCont (.slice Ao10 t389.length co10, .slice Ao9 t392.length co9, gb395) _ ⟨hHeld, (bq49), (bq50), (bq52), (bq53), (bq54), GW395.out, GE395.out, NB387_395.out, NB395_387.out, NB388_395.out, NB395_388.out, (bq12)⟩)
   ·skip
    refine box_step ?hg (N := 3) ?hd (cs := #[.string (⟨#[]⟩ : ByteArray), .slice none 0 0, .string (⟨#[]⟩ : ByteArray), .slice none 0 0, .slice none 0 0, .slice none 0 0]) (t := 40) ?hr ?_; (case hd => rfl); (case hg => rfl); (case hr => first | (go_simp; done) | (go_simp; rfl))
    intro gb395 hg w8 hbox hb
    have n0_ := Aside0.mk (Kd.R_below (bq68) hb)
    have n1_ := Aside0.mk (blkB BK387.out hb)
    have n2_ := Aside0.mk (blkB BK388.out hb)
    have n3_ := Aside0.mk (below_step (bq33) hb)
    have n4_ := Aside0.mk (hbox)
    have n5_ := Aside0.mk ((bq9 : w.heap.size ≤ gb395))
    have n6_ := Aside0.mk ((bq9 : w.heap.size ≤ gb395))
    have n7_ := Aside0.mk ((bq89 : gb387 ≠ gb395))
    have n8_ := Aside0.mk ((bq90 : gb395 ≠ gb387))
    have n9_ := Aside0.mk ((bq91 : gb388 ≠ gb395))
    have n10_ := Aside0.mk ((bq92 : gb395 ≠ gb388))
    clear HO391 BK387 BK388 HB
    have HO391 := n0_
    have BK387 := n1_
    have BK388 := n2_
    have HB := n3_
    have BK395 := n4_
    have GW395 := n5_
    have GE395 := n6_
    have NB387_395 := n7_
    have NB395_387 := n8_
    have NB388_395 := n9_
    have NB395_388 := n10_
    clear n0_ n1_ n2_ n3_ n4_ n5_ n6_ n7_ n8_ n9_ n10_ hb hbox hg
    refine hK.out _ _ ⟨(blk_cell BK387.out 0).trans rfl, (blk_cell BK387.out 1).trans rfl, (blk_cell BK387.out 2).trans rfl, (blk_cell BK387.out 3).trans rfl, (blk_cell BK387.out 4).trans rfl, (blk_cell BK387.out 5).trans rfl⟩ (fun hHeld => ?_)
    clear hK K
    refine norm_ (a' := ?_) ?_ ?_
    rotate_left
    ·show Act.put _ (some 3) _ = _
     simp only [Act.put, List.setIfInBounds_toArray, List.set_cons_zero, List.set_cons_succ, i64_w, i32_w]
     rfl
    refine one_ (i := 9) (N := some 17) #[true, true, true, true, true, true, true, true, true, true, false, true, false] rfl rfl (one_of HT_.out (by kernel_rfl)) (by decide) (fun K hK => ?_)
    refine goes_ Tryd.func60 (by kernel_rfl) rfl #[.slice A0_3 l0_3.length c0_3] (by rfl) rfl rfl (bq48) ?_
    with_reducible refine (slices_Clone_string_string.calls _ _ l0_3 t392 _ ?side1 ?side2 A3.out).mono ?_
    (case side1 => repeat (first | exact (Kd.C_below HR0_3.out HB.out) | (with_reducible refine Kd.C_alloc ?_ _) | (with_reducible refine Kd.C_drewN ?_ _) | (with_reducible refine Kd.C_drew ?_)))
    (case side2 => exact HC0_3.out)
    rintro e w9 ⟨v393, rfl, ho0, hb⟩
    refine ⟨_, rfl, ?_⟩
    have n0_ := Aside0.mk (Kd.R_elder' (bq68) (Kd.R_base ho0) hb)
    have n1_ := Aside0.mk (Kd.R_lower (Kd.R_new' ho0 (Kd.R_lt (bq68))) (below_size (bq12)))
    have n2_ := Aside0.mk (blkB BK387.out hb)
    have n3_ := Aside0.mk (blkB BK388.out hb)
    have n4_ := Aside0.mk (blkB BK395.out hb)
    have n5_ := Aside0.mk (below_step (bq12) hb)
    clear HO391 BK387 BK388 BK395 HB
    have HO391 := n0_
    have HO394 := n1_
    have BK387 := n2_
    have BK388 := n3_
    have BK395 := n4_
    have HB := n5_
    clear n0_ n1_ n2_ n3_ n4_ n5_ hb ho0
    obtain ⟨Ao10, co10, eo10⟩ := Kd.R_slice HO394.out
    (first | subst eo10 | (injection eo10 with f1_ f2_ f3_; have f4_ := f1_.symm; have f5_ := f3_.symm; clear f1_ f2_ f3_; subst f4_; subst f5_))
    obtain ⟨Ao11, co11, eo11⟩ := Kd.R_slice HO391.out
    (first | subst eo11 | (injection eo11 with f1_ f2_ f3_; have f4_ := f1_.symm; have f5_ := f3_.symm; clear f1_ f2_ f3_; subst f4_; subst f5_))
    refine hK.out _ _ ⟨(blk_cell BK387.out 0).trans rfl, (blk_cell BK387.out 1).trans rfl, (blk_cell BK387.out 2).trans rfl, (blk_cell BK387.out 3).trans rfl, (blk_cell BK387.out 4).trans rfl, (blk_cell BK387.out 5).trans rfl⟩ (fun hHeld => ?_)
    clear hK K
    refine norm_ (a' := ?_) ?_ ?_
    rotate_left
    ·show Act.put _ (some 17) _ = _
     simp only [Act.put, List.setIfInBounds_toArray, List.set_cons_zero, List.set_cons_succ, i64_w, i32_w]
     rfl
    refine pure_ (i := 10) (N := some 18) (v := ?_) (a' := ?_) (tf 12 1) rfl rfl (any_of HT_.out (by kernel_rfl)) (fun _ _ _ h => h) (Or.inl ⟨by rfl, ?_⟩) ?_ ?_
    rotate_left
    ·intro w'
     go_simp
     with_reducible rfl
    rotate_left
    ·simp only [Act.put, List.setIfInBounds_toArray, List.set_cons_zero, List.set_cons_succ, i64_w, i32_w]
     rfl
    exact norm_ (bq75) (hCont (.slice Ao11 t389.length co11, .slice Ao10 t392.length co10, gb395) _ ⟨hHeld, (bq49), (bq50), (bq52), (bq53), (bq54), GW395.out, GE395.out, NB387_395.out, NB395_387.out, NB388_395.out, NB395_388.out, (bq12)⟩)
  ·skip
   refine box_step ?hg (N := 3) ?hd (cs := #[.string (⟨#[]⟩ : ByteArray), .slice none 0 0, .string (⟨#[]⟩ : ByteArray), .slice none 0 0, .slice none 0 0, .slice none 0 0]) (t := 40) ?hr ?_; (case hd => rfl); (case hg => rfl); (case hr => first | (go_simp; done) | (go_simp; rfl))
   intro gb395 hg w7 hbox hb
   have n0_ := Aside0.mk (blkB BK387.out hb)
   have n1_ := Aside0.mk (blkB BK388.out hb)
   have n2_ := Aside0.mk (below_step (bq33) hb)
   have n3_ := Aside0.mk (hbox)
   have n4_ := Aside0.mk ((bq9 : w.heap.size ≤ gb395))
   have n5_ := Aside0.mk ((bq9 : w.heap.size ≤ gb395))
   have n6_ := Aside0.mk ((bq89 : gb387 ≠ gb395))
   have n7_ := Aside0.mk ((bq90 : gb395 ≠ gb387))
   have n8_ := Aside0.mk ((bq91 : gb388 ≠ gb395))
   have n9_ := Aside0.mk ((bq92 : gb395 ≠ gb388))
   clear BK387 BK388 HB
   have BK387 := n0_
   have BK388 := n1_
   have HB := n2_
   have BK395 := n3_
   have GW395 := n4_
   have GE395 := n5_
   have NB387_395 := n6_
   have NB395_387 := n7_
   have NB388_395 := n8_
   have NB395_388 := n9_
   clear n0_ n1_ n2_ n3_ n4_ n5_ n6_ n7_ n8_ n9_ hb hbox hg
   refine hK.out _ _ ⟨(blk_cell BK387.out 0).trans rfl, (blk_cell BK387.out 1).trans rfl, (blk_cell BK387.out 2).trans rfl, (blk_cell BK387.out 3).trans rfl, (blk_cell BK387.out 4).trans rfl, (blk_cell BK387.out 5).trans rfl⟩ (fun hHeld => ?_)
   clear hK K
   refine norm_ (a' := ?_) ?_ ?_
   rotate_left
   ·show Act.put _ (some 3) _ = _
    simp only [Act.put, List.setIfInBounds_toArray, List.set_cons_zero, List.set_cons_succ, i64_w, i32_w]
    rfl
   refine one_ (i := 4) (N := some 12) #[true, true, true, true, true, true, true, true, true, false, false, true, false] rfl rfl (one_of HT_.out (by kernel_rfl)) (by decide) (fun K hK => ?_)
   refine goes_ Tryd.func60 (by kernel_rfl) rfl #[.slice A0_1 l0_1.length c0_1] (by rfl) rfl rfl (bq48) ?_
   with_reducible refine (slices_Clone_string_string.calls _ _ l0_1 t389 _ ?side1 ?side2 A2.out).mono ?_
   (case side1 => repeat (first | exact (Kd.C_below HR0_1.out HB.out) | (with_reducible refine Kd.C_alloc ?_ _) | (with_reducible refine Kd.C_drewN ?_ _) | (with_reducible refine Kd.C_drew ?_)))
   (case side2 => exact HC0_1.out)
   rintro e w8 ⟨v390, rfl, ho0, hb⟩
   refine ⟨_, rfl, ?_⟩
   have n0_ := Aside0.mk (Kd.R_lower ho0 (below_size (bq12)))
   have n1_ := Aside0.mk (blkB BK387.out hb)
   have n2_ := Aside0.mk (blkB BK388.out hb)
   have n3_ := Aside0.mk (blkB BK395.out hb)
   have n4_ := Aside0.mk (below_step (bq12) hb)
   clear BK387 BK388 BK395 HB
   have HO391 := n0_
   have BK387 := n1_
   have BK388 := n2_
   have BK395 := n3_
   have HB := n4_
   clear n0_ n1_ n2_ n3_ n4_ hb ho0
   refine hK.out _ _ ⟨(blk_cell BK387.out 0).trans rfl, (blk_cell BK387.out 1).trans rfl, (blk_cell BK387.out 2).trans rfl, (blk_cell BK387.out 3).trans rfl, (blk_cell BK387.out 4).trans rfl, (blk_cell BK387.out 5).trans rfl⟩ (fun hHeld => ?_)
   clear hK K
   refine norm_ (a' := ?_) ?_ ?_
   rotate_left
   ·show Act.put _ (some 12) _ = _
    simp only [Act.put, List.setIfInBounds_toArray, List.set_cons_zero, List.set_cons_succ, i64_w, i32_w]
    rfl
   refine one_ (i := 9) (N := some 17) #[true, true, true, true, true, true, true, true, true, true, false, true, false] rfl rfl (one_of HT_.out (by kernel_rfl)) (by decide) (fun K hK => ?_)
   refine goes_ Tryd.func60 (by kernel_rfl) rfl #[.slice A0_3 l0_3.length c0_3] (by rfl) rfl rfl (bq48) ?_
   with_reducible refine (slices_Clone_string_string.calls _ _ l0_3 t392 _ ?side1 ?side2 A3.out).mono ?_
   (case side1 => repeat (first | exact (Kd.C_below HR0_3.out HB.out) | (with_reducible refine Kd.C_alloc ?_ _) | (with_reducible refine Kd.C_drewN ?_ _) | (with_reducible refine Kd.C_drew ?_)))
   (case side2 => exact HC0_3.out)
   rintro e w9 ⟨v393, rfl, ho0, hb⟩
   refine ⟨_, rfl, ?_⟩
   have n0_ := Aside0.mk (Kd.R_elder' (bq68) (Kd.R_base ho0) hb)
   have n1_ := Aside0.mk (Kd.R_lower (Kd.R_new' ho0 (Kd.R_lt (bq68))) (below_size (bq12)))
   have n2_ := Aside0.mk (blkB BK387.out hb)
   have n3_ := Aside0.mk (blkB BK388.out hb)
   have n4_ := Aside0.mk (blkB BK395.out hb)
   have n5_ := Aside0.mk (below_step (bq12) hb)
   clear HO391 BK387 BK388 BK395 HB
   have HO391 := n0_
   have HO394 := n1_
   have BK387 := n2_
   have BK388 := n3_
   have BK395 := n4_
   have HB := n5_
   clear n0_ n1_ n2_ n3_ n4_ n5_ hb ho0
   obtain ⟨Ao10, co10, eo10⟩ := Kd.R_slice HO394.out
   (first | subst eo10 | (injection eo10 with f1_ f2_ f3_; have f4_ := f1_.symm; have f5_ := f3_.symm; clear f1_ f2_ f3_; subst f4_; subst f5_))
   obtain ⟨Ao11, co11, eo11⟩ := Kd.R_slice HO391.out
   (first | subst eo11 | (injection eo11 with f1_ f2_ f3_; have f4_ := f1_.symm; have f5_ := f3_.symm; clear f1_ f2_ f3_; subst f4_; subst f5_))
   refine hK.out _ _ ⟨(blk_cell BK387.out 0).trans rfl, (blk_cell BK387.out 1).trans rfl, (blk_cell BK387.out 2).trans rfl, (blk_cell BK387.out 3).trans rfl, (blk_cell BK387.out 4).trans rfl, (blk_cell BK387.out 5).trans rfl⟩ (fun hHeld => ?_)
   clear hK K
   refine norm_ (a' := ?_) ?_ ?_
   rotate_left
   ·show Act.put _ (some 17) _ = _
    simp only [Act.put, List.setIfInBounds_toArray, List.set_cons_zero, List.set_cons_succ, i64_w, i32_w]
    rfl
   refine pure_ (i := 10) (N := some 18) (v := ?_) (a' := ?_) (tf 12 1) rfl rfl (any_of HT_.out (by kernel_rfl)) (fun _ _ _ h => h) (Or.inl ⟨by rfl, ?_⟩) ?_ ?_
   rotate_left
   ·intro w'
    go_simp
    with_reducible rfl
   rotate_left
   ·simp only [Act.put, List.setIfInBounds_toArray, List.set_cons_zero, List.set_cons_succ, i64_w, i32_w]
    rfl
   exact norm_ (bq75) (hCont (.slice Ao11 t389.length co11, .slice Ao10 t392.length co10, gb395) _ ⟨hHeld, (bq49), (bq50), (bq52), (bq53), (bq54), GW395.out, GE395.out, NB387_395.out, NB395_387.out, NB388_395.out, NB395_388.out, (bq12)⟩)
 rintro ⟨v390, v393, gb395⟩ w12 ⟨hS_, h0_, h1_, h2_, h3_, h4_, h5_, h6_, h7_, h8_, h9_, h10_, h11_⟩
 have n0_ : Aside0 (Kd.R Kd.string 9 w12 w.heap.size (fun k_ => some k_ ≠ (v393 : Value).ownBlock) v390 t389) := ⟨h0_⟩
 have n1_ : Aside0 (Kd.R Kd.string 9 w12 w.heap.size (fun k_ => some k_ ≠ (v390 : Value).ownBlock) v393 t392) := ⟨h1_⟩
 have n2_ : Aside0 (w12.heap[gb387]? = some (.cells #[.string a0_0, .slice A0_1 l0_1.length c0_1, .string a0_2, .slice A0_3 l0_3.length c0_3, .slice A0_4 l0_4.length c0_4, .slice A0_5 l0_5.length c0_5] 40 (0, 0))) := ⟨h2_⟩
 have n3_ : Aside0 (w12.heap[gb388]? = some (.cells #[.string (⟨#[]⟩ : ByteArray), .slice none 0 0, .string (⟨#[]⟩ : ByteArray), .slice none 0 0, .slice none 0 0, .slice none 0 0] 40 (0, 0))) := ⟨h3_⟩
 have n4_ : Aside0 (w12.heap[gb395]? = some (.cells #[.string (⟨#[]⟩ : ByteArray), .slice none 0 0, .string (⟨#[]⟩ : ByteArray), .slice none 0 0, .slice none 0 0, .slice none 0 0] 40 (0, 0))) := ⟨h4_⟩
 have n5_ : Aside0 (w.heap.size ≤ gb395) := ⟨h5_⟩
 have n6_ : Aside0 (w.heap.size ≤ gb395) := ⟨h6_⟩
 have n7_ : Aside0 (gb387 ≠ gb395) := ⟨h7_⟩
 have n8_ : Aside0 (gb395 ≠ gb387) := ⟨h8_⟩
 have n9_ : Aside0 (gb388 ≠ gb395) := ⟨h9_⟩
 have n10_ : Aside0 (gb395 ≠ gb388) := ⟨h10_⟩
 have n11_ : Aside0 (Below w.heap.size w w12) := ⟨h11_⟩
 clear BK387 BK388 HB h0_ h1_ h2_ h3_ h4_ h5_ h6_ h7_ h8_ h9_ h10_ h11_
 have HO391 := n0_
 have HO394 := n1_
 have BK387 := n2_
 have BK388 := n3_
 have BK395 := n4_
 have GW395 := n5_
 have GE395 := n6_
 have NB387_395 := n7_
 have NB395_387 := n8_
 have NB388_395 := n9_
 have NB395_388 := n10_
 have HB := n11_
 clear n0_ n1_ n2_ n3_ n4_ n5_ n6_ n7_ n8_ n9_ n10_ n11_
 have hHeld : w12.cell? ⟨gb387, 0, none⟩ = some (.string a0_0) ∧ w12.cell? ⟨gb387, 1, none⟩ = some (.slice A0_1 l0_1.length c0_1) ∧ w12.cell? ⟨gb387, 2, none⟩ = some (.string a0_2) ∧ w12.cell? ⟨gb387, 3, none⟩ = some (.slice A0_3 l0_3.length c0_3) ∧ w12.cell? ⟨gb387, 4, none⟩ = some (.slice A0_4 l0_4.length c0_4) ∧ w12.cell? ⟨gb387, 5, none⟩ = some (.slice A0_5 l0_5.length c0_5) := hS_
 obtain ⟨Ao13, co13, eo13⟩ := Kd.R_slice HO394.out
 (first | subst eo13 | (injection eo13 with f1_ f2_ f3_; have f4_ := f1_.symm; have f5_ := f3_.symm; clear f1_ f2_ f3_; subst f4_; subst f5_))
 obtain ⟨Ao14, co14, eo14⟩ := Kd.R_slice HO391.out
 (first | subst eo14 | (injection eo14 with f1_ f2_ f3_; have f4_ := f1_.symm; have f5_ := f3_.symm; clear f1_ f2_ f3_; subst f4_; subst f5_))
 refine norm_ (a' := ?_) ?_ ?_
 rotate_left
 ·simp only [putAll, Act.put, List.setIfInBounds_toArray, List.set_cons_zero, List.set_cons_succ]
  rfl
 refine one_ (i := 12) (N := none) (tf 13 0) rfl rfl (one_of HT_.out (by kernel_rfl)) (by decide) (fun K hK => ?_)
 have hs15 : w12.cell? ⟨gb395, 0, none⟩ = some (.string (⟨#[]⟩ : ByteArray)) := (blk_cell BK395.out 0).trans rfl
 have hfs15 := blk_frozen BK395.out 0
 have hns15_0 := NB387_395.out
 have hns15_1 := NB388_395.out
 have hms15_0 := NB395_387.out
 have hms15_1 := NB395_388.out
 have hs16 : w12.cell? ⟨gb395, 1, none⟩ = some (.slice none 0 0) := (blk_cell BK395.out 1).trans rfl
 have hfs16 := blk_frozen BK395.out 1
 have hns16_0 := NB387_395.out
 have hns16_1 := NB388_395.out
 have hms16_0 := NB395_387.out
 have hms16_1 := NB395_388.out
 have hs17 : w12.cell? ⟨gb395, 2, none⟩ = some (.string (⟨#[]⟩ : ByteArray)) := (blk_cell BK395.out 2).trans rfl
 have hfs17 := blk_frozen BK395.out 2
 have hns17_0 := NB387_395.out
 have hns17_1 := NB388_395.out
 have hms17_0 := NB395_387.out
 have hms17_1 := NB395_388.out
 have hs18 : w12.cell? ⟨gb395, 3, none⟩ = some (.slice none 0 0) := (blk_cell BK395.out 3).trans rfl
 have hfs18 := blk_frozen BK395.out 3
 have hns18_0 := NB387_395.out
 have hns18_1 := NB388_395.out
 have hms18_0 := NB395_387.out
 have hms18_1 := NB395_388.out
 have hs19 : w12.cell? ⟨gb395, 4, none⟩ = some (.slice none 0 0) := (blk_cell BK395.out 4).trans rfl
 have hfs19 := blk_frozen BK395.out 4
 have hns19_0 := NB387_395.out
 have hns19_1 := NB388_395.out
 have hms19_0 := NB395_387.out
 have hms19_1 := NB395_388.out
 have hs20 : w12.cell? ⟨gb395, 5, none⟩ = some (.slice none 0 0) := (blk_cell BK395.out 5).trans rfl
 have hfs20 := blk_frozen BK395.out 5
 have hns20_0 := NB387_395.out
 have hns20_1 := NB388_395.out
 have hms20_0 := NB395_387.out
 have hms20_1 := NB395_388.out
 refine skip_ (w1 := ?_) (by rfl) rfl ?_ ?_
 rotate_left
 ·go_simp
  rfl
 refine hK.out _ _ ⟨((cell_far (p := ⟨gb395, _, none⟩) NB387_395.out _).trans (((cell_far (p := ⟨gb395, _, none⟩) NB387_395.out _).trans (((cell_far (p := ⟨gb395, _, none⟩) NB387_395.out _).trans (((cell_far (p := ⟨gb395, _, none⟩) NB387_395.out _).trans (((cell_far (p := ⟨gb395, _, none⟩) NB387_395.out _).trans (((cell_far (p := ⟨gb395, _, none⟩) NB387_395.out _).trans (hHeld.1)))))))))))), ((cell_far (p := ⟨gb395, _, none⟩) NB387_395.out _).trans (((cell_far (p := ⟨gb395, _, none⟩) NB387_395.out _).trans (((cell_far (p := ⟨gb395, _, none⟩) NB387_395.out _).trans (((cell_far (p := ⟨gb395, _, none⟩) NB387_395.out _).trans (((cell_far (p := ⟨gb395, _, none⟩) NB387_395.out _).trans (((cell_far (p := ⟨gb395, _, none⟩) NB387_395.out _).trans (hHeld.2.1)))))))))))), ((cell_far (p := ⟨gb395, _, none⟩) NB387_395.out _).trans (((cell_far (p := ⟨gb395, _, none⟩) NB387_395.out _).trans (((cell_far (p := ⟨gb395, _, none⟩) NB387_395.out _).trans (((cell_far (p := ⟨gb395, _, none⟩) NB387_395.out _).trans (((cell_far (p := ⟨gb395, _, none⟩) NB387_395.out _).trans (((cell_far (p := ⟨gb395, _, none⟩) NB387_395.out _).trans (hHeld.2.2.1)))))))))))), ((cell_far (p := ⟨gb395, _, none⟩) NB387_395.out _).trans (((cell_far (p := ⟨gb395, _, none⟩) NB387_395.out _).trans (((cell_far (p := ⟨gb395, _, none⟩) NB387_395.out _).trans (((cell_far (p := ⟨gb395, _, none⟩) NB387_395.out _).trans (((cell_far (p := ⟨gb395, _, none⟩) NB387_395.out _).trans (((cell_far (p := ⟨gb395, _, none⟩) NB387_395.out _).trans (hHeld.2.2.2.1)))))))))))), ((cell_far (p := ⟨gb395, _, none⟩) NB387_395.out _).trans (((cell_far (p := ⟨gb395, _, none⟩) NB387_395.out _).trans (((cell_far (p := ⟨gb395, _, none⟩) NB387_395.out _).trans (((cell_far (p := ⟨gb395, _, none⟩) NB387_395.out _).trans (((cell_far (p := ⟨gb395, _, none⟩) NB387_395.out _).trans (((cell_far (p := ⟨gb395, _, none⟩) NB387_395.out _).trans (hHeld.2.2.2.2.1)))))))))))), ((cell_far (p := ⟨gb395, _, none⟩) NB387_395.out _).trans (((cell_far (p := ⟨gb395, _, none⟩) NB387_395.out _).trans (((cell_far (p := ⟨gb395, _, none⟩) NB387_395.out _).trans (((cell_far (p := ⟨gb395, _, none⟩) NB387_395.out _).trans (((cell_far (p := ⟨gb395, _, none⟩) NB387_395.out _).trans (((cell_far (p := ⟨gb395, _, none⟩) NB387_395.out _).trans (hHeld.2.2.2.2.2))))))))))))⟩ (fun hHeld => ?_)
 clear hK K
 refine done_ (done_of HT_.out (by kernel_rfl)) ?_
 have hnb21 := NB387_388.out
 have hnc21 := NB388_387.out
 have hnb22 := NB387_395.out
 have hnc22 := NB395_387.out
 obtain ⟨hcz23_0, hcz23_1, hcz23_2, hcz23_3, hcz23_4, hcz23_5, hfz23_0, hfz23_1, hfz23_2, hfz23_3, hfz23_4, hfz23_5⟩ := bk6 BK387.out
 try go_wp2
 go_loopg [22] k (fun kq v22 w' => ∃ (x22_1 : Int) (x396004_1 : List (S47)) (u396004 : Value), v22 = .int .i64 x22_1 ∧ Aside0 (ir_cloneFun.l0 kq l0_4 (l0_4.length : Int) x22_1 a0_0 l0_1 a0_2 l0_3 l0_4 l0_5 a0_0 t389 a0_2 t392 x396004_1 = some (r1, r2, r3, r4, r5, r6)) ∧ Aside0 (kq ≤ k) ∧ Aside0 (Kd.R Kd.string 9 w' w.heap.size (fun k_ => some k_ ≠ ((.slice Ao13 t392.length co13) : Value).ownBlock) (.slice Ao14 t389.length co14) t389) ∧ Aside0 (Kd.R Kd.string 9 w' w.heap.size (fun k_ => some k_ ≠ ((.slice Ao14 t389.length co14) : Value).ownBlock) (.slice Ao13 t392.length co13) t392) ∧ Aside0 (Kd.S k47 47 w' w.heap.size (fun _ => True) u396004 x396004_1) ∧ Aside0 (w'.heap[gb387]? = some (.cells #[.string a0_0, (.slice A0_1 l0_1.length c0_1), .string a0_2, (.slice A0_3 l0_3.length c0_3), (.slice A0_4 l0_4.length c0_4), (.slice A0_5 l0_5.length c0_5)] 40 (0, 0))) ∧ Aside0 (w'.heap[gb388]? = some (.cells #[.string (⟨#[]⟩ : ByteArray), (.slice none 0 0), .string (⟨#[]⟩ : ByteArray), (.slice none 0 0), (.slice none 0 0), (.slice none 0 0)] 40 (0, 0))) ∧ Aside0 (w'.heap[gb395]? = some (.cells #[.string a0_0, (.slice Ao14 t389.length co14), .string a0_2, (.slice Ao13 t392.length co13), u396004, (.slice none 0 0)] 40 (0, 0))) ∧ Aside0 (Below w.heap.size w w'))
 case atStart => exact ⟨(0), (([] : List (S47))), (.slice none 0 0), (bq78), H', ⟨Nat.le_refl _⟩, ⟨by (with_reducible repeat (first | apply Kd.R_alloc | apply Kd.R_drewN | apply Kd.R_drew)); exact Kd.R_mono (Kd.R_far (p := ⟨gb395, 5, none⟩) (Kd.R_far (p := ⟨gb395, 4, none⟩) (Kd.R_far (p := ⟨gb395, 3, none⟩) (Kd.R_far (p := ⟨gb395, 2, none⟩) (Kd.R_far (p := ⟨gb395, 1, none⟩) (Kd.R_far (p := ⟨gb395, 0, none⟩) (Kd.R_types HO391.out BK395.out (by decide)) (fun _ hk => hk.2) (.string a0_0)) (fun _ hk => hk.2) (.slice Ao14 t389.length co14)) (fun _ hk => hk.2) (.string a0_2)) (fun _ hk => hk.2) (.slice Ao13 t392.length co13)) (fun _ hk => hk.2) (.slice none 0 0)) (fun _ hk => hk.2) (.slice none 0 0)) (fun _ hk => hk.1)⟩, ⟨by (with_reducible repeat (first | apply Kd.R_alloc | apply Kd.R_drewN | apply Kd.R_drew)); exact Kd.R_mono (Kd.R_far (p := ⟨gb395, 5, none⟩) (Kd.R_far (p := ⟨gb395, 4, none⟩) (Kd.R_far (p := ⟨gb395, 3, none⟩) (Kd.R_far (p := ⟨gb395, 2, none⟩) (Kd.R_far (p := ⟨gb395, 1, none⟩) (Kd.R_far (p := ⟨gb395, 0, none⟩) (Kd.R_types HO394.out BK395.out (by decide)) (fun _ hk => hk.2) (.string a0_0)) (fun _ hk => hk.2) (.slice Ao14 t389.length co14)) (fun _ hk => hk.2) (.string a0_2)) (fun _ hk => hk.2) (.slice Ao13 t392.length co13)) (fun _ hk => hk.2) (.slice none 0 0)) (fun _ hk => hk.2) (.slice none 0 0)) (fun _ hk => hk.1)⟩, ⟨by first | exact Kd.S_nil _ _ _ _ _ | exact Kd.N_nil _ _ _ _ _ | exact Kd.V_nil _ _ _ _ _ | exact Kd.Q_nil _ _ _ _ _ | exact Kd.R_nil _ _ _ _ _⟩, ⟨by (with_reducible repeat (first | refine blk_drewN ?_ _ | refine blk_drew ?_ | refine blk_alloc ?_ _)); refine blk_far ?_ NB387_395.out _; (with_reducible repeat (first | refine blk_drewN ?_ _ | refine blk_drew ?_ | refine blk_alloc ?_ _)); refine blk_far ?_ NB387_395.out _; (with_reducible repeat (first | refine blk_drewN ?_ _ | refine blk_drew ?_ | refine blk_alloc ?_ _)); refine blk_far ?_ NB387_395.out _; (with_reducible repeat (first | refine blk_drewN ?_ _ | refine blk_drew ?_ | refine blk_alloc ?_ _)); refine blk_far ?_ NB387_395.out _; (with_reducible repeat (first | refine blk_drewN ?_ _ | refine blk_drew ?_ | refine blk_alloc ?_ _)); refine blk_far ?_ NB387_395.out _; (with_reducible repeat (first | refine blk_drewN ?_ _ | refine blk_drew ?_ | refine blk_alloc ?_ _)); refine blk_far ?_ NB387_395.out _; (with_reducible repeat (first | refine blk_drewN ?_ _ | refine blk_drew ?_ | refine blk_alloc ?_ _)); exact BK387.out⟩, ⟨by (with_reducible repeat (first | refine blk_drewN ?_ _ | refine blk_drew ?_ | refine blk_alloc ?_ _)); refine blk_far ?_ NB388_395.out _; (with_reducible repeat (first | refine blk_drewN ?_ _ | refine blk_drew ?_ | refine blk_alloc ?_ _)); refine blk_far ?_ NB388_395.out _; (with_reducible repeat (first | refine blk_drewN ?_ _ | refine blk_drew ?_ | refine blk_alloc ?_ _)); refine blk_far ?_ NB388_395.out _; (with_reducible repeat (first | refine blk_drewN ?_ _ | refine blk_drew ?_ | refine blk_alloc ?_ _)); refine blk_far ?_ NB388_395.out _; (with_reducible repeat (first | refine blk_drewN ?_ _ | refine blk_drew ?_ | refine blk_alloc ?_ _)); refine blk_far ?_ NB388_395.out _; (with_reducible repeat (first | refine blk_drewN ?_ _ | refine blk_drew ?_ | refine blk_alloc ?_ _)); refine blk_far ?_ NB388_395.out _; (with_reducible repeat (first | refine blk_drewN ?_ _ | refine blk_drew ?_ | refine blk_alloc ?_ _)); exact BK388.out⟩, ⟨by (with_reducible repeat (first | refine blk_drewN ?_ _ | refine blk_drew ?_ | refine blk_alloc ?_ _)); refine blk_put (cs := #[.string a0_0, .slice Ao14 t389.length co14, .string a0_2, .slice Ao13 t392.length co13, .slice none 0 0, .slice none 0 0]) ?_ 5 _ rfl; (with_reducible repeat (first | refine blk_drewN ?_ _ | refine blk_drew ?_ | refine blk_alloc ?_ _)); refine blk_put (cs := #[.string a0_0, .slice Ao14 t389.length co14, .string a0_2, .slice Ao13 t392.length co13, .slice none 0 0, .slice none 0 0]) ?_ 4 _ rfl; (with_reducible repeat (first | refine blk_drewN ?_ _ | refine blk_drew ?_ | refine blk_alloc ?_ _)); refine blk_put (cs := #[.string a0_0, .slice Ao14 t389.length co14, .string a0_2, .slice none 0 0, .slice none 0 0, .slice none 0 0]) ?_ 3 _ rfl; (with_reducible repeat (first | refine blk_drewN ?_ _ | refine blk_drew ?_ | refine blk_alloc ?_ _)); refine blk_put (cs := #[.string a0_0, .slice Ao14 t389.length co14, .string (⟨#[]⟩ : ByteArray), .slice none 0 0, .slice none 0 0, .slice none 0 0]) ?_ 2 _ rfl; (with_reducible repeat (first | refine blk_drewN ?_ _ | refine blk_drew ?_ | refine blk_alloc ?_ _)); refine blk_put (cs := #[.string a0_0, .slice none 0 0, .string (⟨#[]⟩ : ByteArray), .slice none 0 0, .slice none 0 0, .slice none 0 0]) ?_ 1 _ rfl; (with_reducible repeat (first | refine blk_drewN ?_ _ | refine blk_drew ?_ | refine blk_alloc ?_ _)); refine blk_put (cs := #[.string (⟨#[]⟩ : ByteArray), .slice none 0 0, .string (⟨#[]⟩ : ByteArray), .slice none 0 0, .slice none 0 0, .slice none 0 0]) ?_ 0 _ rfl; (with_reducible repeat (first | refine blk_drewN ?_ _ | refine blk_drew ?_ | refine blk_alloc ?_ _)); exact BK395.out⟩, ⟨bq12⟩⟩
 case round =>
  clear H' hcz23_0 hcz23_1 hcz23_2 hcz23_3 hcz23_4 hcz23_5 hfz23_0 hfz23_1 hfz23_2 hfz23_3 hfz23_4 hfz23_5
  obtain ⟨x22_1, x396004_1, u396004, rfl, HA, HK1, HO_396001, HO_396003, HO_396004, BK387, BK388, BK395, HB⟩ := hrel
  cases gk with
  | zero => exact absurd HA.out (by simp [ir_cloneFun.l0])
  | succ k1 =>
   have H := HA.out
   clear HA
   simp only [ir_cloneFun.l0] at H
   by_cases c24 : x22_1 < (l0_4.length : Int)
   ·rw [if_pos c24] at H
    have c24b0 := decide_eq_true c24
    clear c24
    by_cases c25 : 0 ≤ x22_1
    ·rw [if_pos c25] at H
     have c25b0 := decide_eq_true c25
     clear c25
     by_cases c26 : x22_1 < (l0_4.length : Int)
     ·rw [if_pos c26] at H
      have c26b0 := decide_eq_true c26
      clear c26
      replace H := Option.bind_eq_some_iff.mp H
      obtain ⟨t398, A270, H⟩ := H
      (try dsimp only at H)
      have A27 := Aside0.mk A270
      clear A270
      by_cases c28 : x396004_1.length < 1954687338268
      ·rw [if_pos c28] at H
       have LMc28 := Aside0.mk c28
       clear c28
       obtain ⟨y401, hy401⟩ : ∃ y_ : List (S47), y_ = (x396004_1 ++ [(⟨(rd_T47 l0_4 x22_1).f0, (rd_T47 l0_4 x22_1).f1, t398, (rd_T47 l0_4 x22_1).f3, (rd_T47 l0_4 x22_1).f4⟩ : S47)]) := ⟨_, rfl⟩
       replace H : (ir_cloneFun.l0 k1 l0_4 (l0_4.length : Int) (wrap64 (x22_1 + 1)) a0_0 l0_1 a0_2 l0_3 l0_4 l0_5 a0_0 t389 a0_2 t392 y401) = some (r1, r2, r3, r4, r5, r6) := by first | (rw [hy401]; with_reducible exact H) | (have H2_ := (Option.bind_some _ _).symm.trans H; rw [hy401]; with_reducible exact H2_) | (have H2_ := (Option.bind_some _ _).symm.trans H; with_reducible exact H2_) | with_reducible exact H | (rw [hy401]; exact H) | exact H
       have Ny401 := Aside0.mk hy401
       clear hy401
       have H' := Aside0.mk H
       clear H
       have p396 : 0 ≤ (x22_1 : Int) := of_decide_eq_true (bq77)
       have q396 : x22_1 < (l0_4.length : Int) := of_decide_eq_true (bq77)
       obtain ⟨ad396, A396_2, c396_2, e396, hx396_0, hx396_1, hx396_2, hx396_3, hx396_4, hl396_2, hi396_2⟩ := at_T47 HR0_4.out x22_1 p396 q396
       cases e396
       replace hx396_0 := (HB.out.cell (World.block_lt_of_cell? w _ hx396_0)).trans hx396_0
       replace hx396_1 := (HB.out.cell (World.block_lt_of_cell? w _ hx396_1)).trans hx396_1
       replace hx396_2 := (HB.out.cell (World.block_lt_of_cell? w _ hx396_2)).trans hx396_2
       replace hx396_3 := (HB.out.cell (World.block_lt_of_cell? w _ hx396_3)).trans hx396_3
       replace hx396_4 := (HB.out.cell (World.block_lt_of_cell? w _ hx396_4)).trans hx396_4
       have HR396_2 := Aside0.mk hi396_2
       have HC396_2 := Aside0.mk hl396_2
       clear hi396_2 hl396_2
       replace p396 := eq_true p396
       replace q396 := eq_true q396
       go_wp2_with (first | ((with_reducible refine gate_dst (N := 5) rfl ?_); refine box_event ?hg (N := 5) ?hd (cs := #[.int .i64 0, .string (⟨#[]⟩ : ByteArray), .slice none 0 0, .int .i64 0, .string (⟨#[]⟩ : ByteArray)]) (t := 47) ?hr ?_; (case hd => rfl); (case hg => rfl); (case hr => first | (go_simp; done) | (go_simp; rfl)); intro gb397 hg w29 hbox hb; have n0_ := Aside0.mk (Kd.R_below (bq56) hb); have n1_ := Aside0.mk (Kd.R_below (bq57) hb); have n2_ := Aside0.mk (Kd.S_below (Kd.S_elderB (bq58) gb397 (Nat.le_of_eq hg.symm)) hb); have n3_ := Aside0.mk (blkB BK387.out hb); have n4_ := Aside0.mk (blkB BK388.out hb); have n5_ := Aside0.mk (blkB BK395.out hb); have n6_ := Aside0.mk (below_step (bq12) hb); have n7_ := Aside0.mk (hbox); have n8_ := Aside0.mk ((bq2 : w.heap.size ≤ gb397)); have n9_ := Aside0.mk ((bq2 : w.heap.size ≤ gb397)); have n10_ := Aside0.mk ((bq89 : gb387 ≠ gb397)); have n11_ := Aside0.mk ((bq90 : gb397 ≠ gb387)); have n12_ := Aside0.mk ((bq91 : gb388 ≠ gb397)); have n13_ := Aside0.mk ((bq92 : gb397 ≠ gb388)); have n14_ := Aside0.mk ((by rw [hg]; exact Nat.ne_of_lt (blkL BK395.out) : gb395 ≠ gb397)); have n15_ := Aside0.mk ((by rw [hg]; exact Nat.ne_of_gt (blkL BK395.out) : gb397 ≠ gb395)); clear HO_396001 HO_396003 HO_396004 BK387 BK388 BK395 HB; have HO_396001 := n0_; have HO_396003 := n1_; have HO_396004 := n2_; have BK387 := n3_; have BK388 := n4_; have BK395 := n5_; have HB := n6_; have BK397 := n7_; have GW397 := n8_; have GE397 := n9_; have NB387_397 := n10_; have NB397_387 := n11_; have NB388_397 := n12_; have NB397_388 := n13_; have NB395_397 := n14_; have NB397_395 := n15_; clear n0_ n1_ n2_ n3_ n4_ n5_ n6_ n7_ n8_ n9_ n10_ n11_ n12_ n13_ n14_ n15_ hb hbox hg; have hnb30 := NB397_387.out; have hnc30 := NB387_397.out; have hnb31 := NB397_388.out; have hnc31 := NB388_397.out; have hnb32 := NB397_395.out; have hnc32 := NB395_397.out; obtain ⟨hcz33_0, hcz33_1, hcz33_2, hcz33_3, hcz33_4, hfz33_0, hfz33_1, hfz33_2, hfz33_3, hfz33_4⟩ := bk5 BK397.out) | ((with_reducible refine gate_callee (f := 61) rfl ?_); refine goesL_ (some 28) rfl rfl Tryd.func61 (by kernel_rfl) rfl #[.slice A396_2 ((rd_T47 l0_4 x22_1).f2).length c396_2] rfl (bq48) ?_; (with_reducible refine (slices_Clone_int_int.calls _ _ ((rd_T47 l0_4 x22_1).f2) t398 _ ?side1 ?side2 A27.out).mono ?_); (case side1 => exact Kd.C_below HR396_2.out (bq4)); (case side2 => exact HC396_2.out); rintro e w34 ⟨v399, rfl, ho0, hb⟩; refine ⟨_, rfl, ?_⟩; have n0_ := Aside0.mk (Kd.R_below (by (with_reducible repeat (first | apply Kd.R_alloc | apply Kd.R_drewN | apply Kd.R_drew)); exact (Kd.R_mono (Kd.R_far (p := ⟨gb397, 4, none⟩) (Kd.R_far (p := ⟨gb397, 3, none⟩) (Kd.R_far (p := ⟨gb397, 2, none⟩) (Kd.R_far (p := ⟨gb397, 1, none⟩) (Kd.R_far (p := ⟨gb397, 0, none⟩) (Kd.R_types HO_396001.out BK397.out (by decide)) (fun _ hk => hk.2) (.int .i64 ((rd_T47 l0_4 x22_1).f0))) (fun _ hk => hk.2) (.string ((rd_T47 l0_4 x22_1).f1))) (fun _ hk => hk.2) (.slice A396_2 ((rd_T47 l0_4 x22_1).f2).length c396_2)) (fun _ hk => hk.2) (.int .i64 ((rd_T47 l0_4 x22_1).f3))) (fun _ hk => hk.2) (.string ((rd_T47 l0_4 x22_1).f4))) (fun _ h_ => h_.1))) hb); have n1_ := Aside0.mk (Kd.R_below (by (with_reducible repeat (first | apply Kd.R_alloc | apply Kd.R_drewN | apply Kd.R_drew)); exact (Kd.R_mono (Kd.R_far (p := ⟨gb397, 4, none⟩) (Kd.R_far (p := ⟨gb397, 3, none⟩) (Kd.R_far (p := ⟨gb397, 2, none⟩) (Kd.R_far (p := ⟨gb397, 1, none⟩) (Kd.R_far (p := ⟨gb397, 0, none⟩) (Kd.R_types HO_396003.out BK397.out (by decide)) (fun _ hk => hk.2) (.int .i64 ((rd_T47 l0_4 x22_1).f0))) (fun _ hk => hk.2) (.string ((rd_T47 l0_4 x22_1).f1))) (fun _ hk => hk.2) (.slice A396_2 ((rd_T47 l0_4 x22_1).f2).length c396_2)) (fun _ hk => hk.2) (.int .i64 ((rd_T47 l0_4 x22_1).f3))) (fun _ hk => hk.2) (.string ((rd_T47 l0_4 x22_1).f4))) (fun _ h_ => h_.1))) hb); have n2_ := Aside0.mk (Kd.S_elder' (by (with_reducible repeat (first | apply Kd.S_alloc | apply Kd.S_drewN | apply Kd.S_drew)); exact (Kd.S_mono (Kd.S_far (p := ⟨gb397, 4, none⟩) (Kd.S_far (p := ⟨gb397, 3, none⟩) (Kd.S_far (p := ⟨gb397, 2, none⟩) (Kd.S_far (p := ⟨gb397, 1, none⟩) (Kd.S_far (p := ⟨gb397, 0, none⟩) (Kd.S_mono HO_396004.out (fun k_ hk => (⟨hk, hk.2⟩ : _ ∧ k_ ≠ gb397))) (fun _ hk => hk.2) (.int .i64 ((rd_T47 l0_4 x22_1).f0))) (fun _ hk => hk.2) (.string ((rd_T47 l0_4 x22_1).f1))) (fun _ hk => hk.2) (.slice A396_2 ((rd_T47 l0_4 x22_1).f2).length c396_2)) (fun _ hk => hk.2) (.int .i64 ((rd_T47 l0_4 x22_1).f3))) (fun _ hk => hk.2) (.string ((rd_T47 l0_4 x22_1).f4))) (fun _ h_ => h_.1))) (Kd.R_base ho0) hb); have n3_ := Aside0.mk (Kd.R_lower ho0 (below_size (bq4))); have n4_ := Aside0.mk (blk_below (g := gb387) (o := .cells #[.string a0_0, .slice A0_1 l0_1.length c0_1, .string a0_2, .slice A0_3 l0_3.length c0_3, .slice (some ad396) l0_4.length c0_4, .slice A0_5 l0_5.length c0_5] 40 (0, 0)) (by (with_reducible repeat (first | refine blk_drewN ?_ _ | refine blk_drew ?_ | refine blk_alloc ?_ _)); refine blk_far ?_ NB387_397.out _; (with_reducible repeat (first | refine blk_drewN ?_ _ | refine blk_drew ?_ | refine blk_alloc ?_ _)); refine blk_far ?_ NB387_397.out _; (with_reducible repeat (first | refine blk_drewN ?_ _ | refine blk_drew ?_ | refine blk_alloc ?_ _)); refine blk_far ?_ NB387_397.out _; (with_reducible repeat (first | refine blk_drewN ?_ _ | refine blk_drew ?_ | refine blk_alloc ?_ _)); refine blk_far ?_ NB387_397.out _; (with_reducible repeat (first | refine blk_drewN ?_ _ | refine blk_drew ?_ | refine blk_alloc ?_ _)); refine blk_far ?_ NB387_397.out _; (with_reducible repeat (first | refine blk_drewN ?_ _ | refine blk_drew ?_ | refine blk_alloc ?_ _)); exact BK387.out) hb); have n5_ := Aside0.mk (blk_below (g := gb388) (o := .cells #[.string (⟨#[]⟩ : ByteArray), .slice none 0 0, .string (⟨#[]⟩ : ByteArray), .slice none 0 0, .slice none 0 0, .slice none 0 0] 40 (0, 0)) (by (with_reducible repeat (first | refine blk_drewN ?_ _ | refine blk_drew ?_ | refine blk_alloc ?_ _)); refine blk_far ?_ NB388_397.out _; (with_reducible repeat (first | refine blk_drewN ?_ _ | refine blk_drew ?_ | refine blk_alloc ?_ _)); refine blk_far ?_ NB388_397.out _; (with_reducible repeat (first | refine blk_drewN ?_ _ | refine blk_drew ?_ | refine blk_alloc ?_ _)); refine blk_far ?_ NB388_397.out _; (with_reducible repeat (first | refine blk_drewN ?_ _ | refine blk_drew ?_ | refine blk_alloc ?_ _)); refine blk_far ?_ NB388_397.out _; (with_reducible repeat (first | refine blk_drewN ?_ _ | refine blk_drew ?_ | refine blk_alloc ?_ _)); refine blk_far ?_ NB388_397.out _; (with_reducible repeat (first | refine blk_drewN ?_ _ | refine blk_drew ?_ | refine blk_alloc ?_ _)); exact BK388.out) hb); have n6_ := Aside0.mk (blk_below (g := gb395) (o := .cells #[.string a0_0, .slice Ao14 t389.length co14, .string a0_2, .slice Ao13 t392.length co13, u396004, .slice none 0 0] 40 (0, 0)) (by (with_reducible repeat (first | refine blk_drewN ?_ _ | refine blk_drew ?_ | refine blk_alloc ?_ _)); refine blk_far ?_ NB395_397.out _; (with_reducible repeat (first | refine blk_drewN ?_ _ | refine blk_drew ?_ | refine blk_alloc ?_ _)); refine blk_far ?_ NB395_397.out _; (with_reducible repeat (first | refine blk_drewN ?_ _ | refine blk_drew ?_ | refine blk_alloc ?_ _)); refine blk_far ?_ NB395_397.out _; (with_reducible repeat (first | refine blk_drewN ?_ _ | refine blk_drew ?_ | refine blk_alloc ?_ _)); refine blk_far ?_ NB395_397.out _; (with_reducible repeat (first | refine blk_drewN ?_ _ | refine blk_drew ?_ | refine blk_alloc ?_ _)); refine blk_far ?_ NB395_397.out _; (with_reducible repeat (first | refine blk_drewN ?_ _ | refine blk_drew ?_ | refine blk_alloc ?_ _)); exact BK395.out) hb); have n7_ := Aside0.mk (blk_below (g := gb397) (o := .cells #[.int .i64 ((rd_T47 l0_4 x22_1).f0), .string ((rd_T47 l0_4 x22_1).f1), .slice A396_2 ((rd_T47 l0_4 x22_1).f2).length c396_2, .int .i64 ((rd_T47 l0_4 x22_1).f3), .string ((rd_T47 l0_4 x22_1).f4)] 47 (0, 0)) (by (with_reducible repeat (first | refine blk_drewN ?_ _ | refine blk_drew ?_ | refine blk_alloc ?_ _)); refine blk_put (cs := #[.int .i64 ((rd_T47 l0_4 x22_1).f0), .string ((rd_T47 l0_4 x22_1).f1), .slice A396_2 ((rd_T47 l0_4 x22_1).f2).length c396_2, .int .i64 ((rd_T47 l0_4 x22_1).f3), .string (⟨#[]⟩ : ByteArray)]) ?_ 4 _ rfl; (with_reducible repeat (first | refine blk_drewN ?_ _ | refine blk_drew ?_ | refine blk_alloc ?_ _)); refine blk_put (cs := #[.int .i64 ((rd_T47 l0_4 x22_1).f0), .string ((rd_T47 l0_4 x22_1).f1), .slice A396_2 ((rd_T47 l0_4 x22_1).f2).length c396_2, .int .i64 0, .string (⟨#[]⟩ : ByteArray)]) ?_ 3 _ rfl; (with_reducible repeat (first | refine blk_drewN ?_ _ | refine blk_drew ?_ | refine blk_alloc ?_ _)); refine blk_put (cs := #[.int .i64 ((rd_T47 l0_4 x22_1).f0), .string ((rd_T47 l0_4 x22_1).f1), .slice none 0 0, .int .i64 0, .string (⟨#[]⟩ : ByteArray)]) ?_ 2 _ rfl; (with_reducible repeat (first | refine blk_drewN ?_ _ | refine blk_drew ?_ | refine blk_alloc ?_ _)); refine blk_put (cs := #[.int .i64 ((rd_T47 l0_4 x22_1).f0), .string (⟨#[]⟩ : ByteArray), .slice none 0 0, .int .i64 0, .string (⟨#[]⟩ : ByteArray)]) ?_ 1 _ rfl; (with_reducible repeat (first | refine blk_drewN ?_ _ | refine blk_drew ?_ | refine blk_alloc ?_ _)); refine blk_put (cs := #[.int .i64 0, .string (⟨#[]⟩ : ByteArray), .slice none 0 0, .int .i64 0, .string (⟨#[]⟩ : ByteArray)]) ?_ 0 _ rfl; (with_reducible repeat (first | refine blk_drewN ?_ _ | refine blk_drew ?_ | refine blk_alloc ?_ _)); exact BK397.out) hb); have n8_ := Aside0.mk (below_step (bq4) hb); clear HO_396001 HO_396003 HO_396004 BK387 BK388 BK395 BK397 HB; have HO_396001 := n0_; have HO_396003 := n1_; have HO_396004 := n2_; have HO400 := n3_; have BK387 := n4_; have BK388 := n5_; have BK395 := n6_; have BK397 := n7_; have HB := n8_; clear n0_ n1_ n2_ n3_ n4_ n5_ n6_ n7_ n8_ hb ho0; obtain ⟨Ao35, co35, eo35⟩ := Kd.R_slice HO400.out; subst eo35; obtain ⟨hcz36_0, hcz36_1, hcz36_2, hcz36_3, hcz36_4, hfz36_0, hfz36_1, hfz36_2, hfz36_3, hfz36_4⟩ := bk5 BK397.out) | ((with_reducible refine gate_store (t := 42) (p := 29) rfl ?_); refine store_event (t := 42) (p := 29) (v := ?vo_w37) (w1 := (w34.setCell ⟨gb397, 2, none⟩ (.slice Ao35 t398.length co35))) ?hg ?ho ?hn ?hr ?_; (case ho => rfl); (case hg => rfl); (case hn => rfl); (case hr => first | (go_simp; done) | (go_simp; rfl)); intro w37 hw; have n0_ : Aside0 (Kd.R Kd.string 9 w37 w.heap.size (fun k_ => some k_ ≠ (.slice Ao13 t392.length co13 : Value).ownBlock) (.slice Ao14 t389.length co14) t389) := ⟨(by rw [hw]; exact (by (with_reducible repeat (first | apply Kd.R_alloc | apply Kd.R_drewN | apply Kd.R_drew)); exact Kd.R_mono (Kd.R_far (p := ⟨gb397, 2, none⟩) (Kd.R_types HO_396001.out BK397.out (by decide)) (fun _ hk => hk.2) (.slice Ao35 t398.length co35)) (fun _ hk => hk.1)))⟩; have n1_ : Aside0 (Kd.R Kd.string 9 w37 w.heap.size (fun k_ => some k_ ≠ (.slice Ao14 t389.length co14 : Value).ownBlock) (.slice Ao13 t392.length co13) t392) := ⟨(by rw [hw]; exact (by (with_reducible repeat (first | apply Kd.R_alloc | apply Kd.R_drewN | apply Kd.R_drew)); exact Kd.R_mono (Kd.R_far (p := ⟨gb397, 2, none⟩) (Kd.R_types HO_396003.out BK397.out (by decide)) (fun _ hk => hk.2) (.slice Ao35 t398.length co35)) (fun _ hk => hk.1)))⟩; have n2_ : Aside0 (Kd.S k47 47 w37 w.heap.size (fun k_ => some k_ ≠ (.slice Ao35 t398.length co35 : Value).ownBlock ∧ k_ ≠ gb397) u396004 x396004_1) := ⟨(by rw [hw]; exact (by (with_reducible repeat (first | apply Kd.S_alloc | apply Kd.S_drewN | apply Kd.S_drew)); exact Kd.S_mono (Kd.S_far (p := ⟨gb397, 2, none⟩) (Kd.S_mono HO_396004.out (fun k_ hk => (⟨hk, hk.1.2⟩ : _ ∧ k_ ≠ gb397))) (fun _ hk => hk.2) (.slice Ao35 t398.length co35)) (fun _ hk => ⟨hk.1.2, hk.1.1.2⟩)))⟩; have n3_ : Aside0 (Kd.R (Kd.int .i64) 3 w37 w.heap.size (fun _ => True) (.slice Ao35 t398.length co35) t398) := ⟨(by rw [hw]; exact (by (with_reducible repeat (first | apply Kd.R_alloc | apply Kd.R_drewN | apply Kd.R_drew)); exact Kd.R_mono (Kd.R_far (p := ⟨gb397, 2, none⟩) (Kd.R_types HO400.out BK397.out (by decide)) (fun _ hk => hk.2) (.slice Ao35 t398.length co35)) (fun _ hk => trivial)))⟩; have n4_ : Aside0 (w37.heap[gb387]? = some (.cells #[.string a0_0, .slice A0_1 l0_1.length c0_1, .string a0_2, .slice A0_3 l0_3.length c0_3, .slice (some ad396) l0_4.length c0_4, .slice A0_5 l0_5.length c0_5] 40 (0, 0))) := ⟨(by rw [hw]; exact (by (with_reducible repeat (first | refine blk_drewN ?_ _ | refine blk_drew ?_ | refine blk_alloc ?_ _)); refine blk_far ?_ NB387_397.out _; (with_reducible repeat (first | refine blk_drewN ?_ _ | refine blk_drew ?_ | refine blk_alloc ?_ _)); exact BK387.out))⟩; have n5_ : Aside0 (w37.heap[gb388]? = some (.cells #[.string (⟨#[]⟩ : ByteArray), .slice none 0 0, .string (⟨#[]⟩ : ByteArray), .slice none 0 0, .slice none 0 0, .slice none 0 0] 40 (0, 0))) := ⟨(by rw [hw]; exact (by (with_reducible repeat (first | refine blk_drewN ?_ _ | refine blk_drew ?_ | refine blk_alloc ?_ _)); refine blk_far ?_ NB388_397.out _; (with_reducible repeat (first | refine blk_drewN ?_ _ | refine blk_drew ?_ | refine blk_alloc ?_ _)); exact BK388.out))⟩; have n6_ : Aside0 (w37.heap[gb395]? = some (.cells #[.string a0_0, .slice Ao14 t389.length co14, .string a0_2, .slice Ao13 t392.length co13, u396004, .slice none 0 0] 40 (0, 0))) := ⟨(by rw [hw]; exact (by (with_reducible repeat (first | refine blk_drewN ?_ _ | refine blk_drew ?_ | refine blk_alloc ?_ _)); refine blk_far ?_ NB395_397.out _; (with_reducible repeat (first | refine blk_drewN ?_ _ | refine blk_drew ?_ | refine blk_alloc ?_ _)); exact BK395.out))⟩; have n7_ : Aside0 (w37.heap[gb397]? = some (.cells #[.int .i64 ((rd_T47 l0_4 x22_1).f0), .string ((rd_T47 l0_4 x22_1).f1), .slice Ao35 t398.length co35, .int .i64 ((rd_T47 l0_4 x22_1).f3), .string ((rd_T47 l0_4 x22_1).f4)] 47 (0, 0))) := ⟨(by rw [hw]; exact (by (with_reducible repeat (first | refine blk_drewN ?_ _ | refine blk_drew ?_ | refine blk_alloc ?_ _)); refine blk_put (cs := #[.int .i64 ((rd_T47 l0_4 x22_1).f0), .string ((rd_T47 l0_4 x22_1).f1), .slice A396_2 ((rd_T47 l0_4 x22_1).f2).length c396_2, .int .i64 ((rd_T47 l0_4 x22_1).f3), .string ((rd_T47 l0_4 x22_1).f4)]) ?_ 2 _ rfl; (with_reducible repeat (first | refine blk_drewN ?_ _ | refine blk_drew ?_ | refine blk_alloc ?_ _)); exact BK397.out))⟩; have n8_ : Aside0 (Below w.heap.size w w37) := ⟨(by rw [hw]; exact (bq4))⟩; clear hw HO_396001 HO_396003 HO_396004 HO400 BK387 BK388 BK395 BK397 HB; have HO_396001 := n0_; have HO_396003 := n1_; have HO_396004 := n2_; have HO400 := n3_; have BK387 := n4_; have BK388 := n5_; have BK395 := n6_; have BK397 := n7_; have HB := n8_; clear n0_ n1_ n2_ n3_ n4_ n5_ n6_ n7_ n8_; have hnb38 := NB395_387.out; have hnc38 := NB387_395.out; have hnb39 := NB395_388.out; have hnc39 := NB388_395.out; obtain ⟨hcz40_0, hcz40_1, hcz40_2, hcz40_3, hcz40_4, hcz40_5, hfz40_0, hfz40_1, hfz40_2, hfz40_3, hfz40_4, hfz40_5⟩ := bk6 BK395.out; obtain ⟨hcz41_0, hcz41_1, hcz41_2, hcz41_3, hcz41_4, hfz41_0, hfz41_1, hfz41_2, hfz41_3, hfz41_4⟩ := bk5 BK397.out) | ((with_reducible refine gate_builtin (b := .append) (xs := #[.tmp 31, .tmp 33]) rfl ?_); at_builtin; refine Kd.S_append k47 (w0 := w) w.heap.size rfl (.tmp 31) (.tmp 33) 37 47 (.agg #[(.int .i64 0), (.string ⟨#[]⟩), (.slice none 0 0), (.int .i64 0), (.string ⟨#[]⟩)]) 72 rfl Tryd.underlying37 info47 rfl (by decide) (by omega) u396004 x396004_1 (⟨(rd_T47 l0_4 x22_1).f0, (rd_T47 l0_4 x22_1).f1, t398, (rd_T47 l0_4 x22_1).f3, (rd_T47 l0_4 x22_1).f4⟩ : S47) [.int .i64 ((rd_T47 l0_4 x22_1).f0), .string ((rd_T47 l0_4 x22_1).f1), .slice Ao35 t398.length co35, .int .i64 ((rd_T47 l0_4 x22_1).f3), .string ((rd_T47 l0_4 x22_1).f4)] (fun k_ => k_ ≠ gb397) (fun k_ => some k_ = (.slice Ao35 t398.length co35 : Value).ownBlock) rfl rfl ?aP (fun k_ hk_ => ((Kd.R_mono (ok' := fun k_ => ((fun k_ => k_ ≠ gb397)) k_ ∧ some k_ ≠ (u396004 : Value).ownBlock) (Kd.R_types (Kd.R_apart' (HO400.out) (Kd.S_typed HO_396004.out) (by decide)) BK397.out (by decide)) (fun k_ hk => ⟨hk.2, hk.1.2⟩))).1 k_ hk_.symm) ?aF ?aO ?aB ?aS ?aL ?_; (case aP => exact k47_mkM _ _ _ (⟨(rd_T47 l0_4 x22_1).f0, (rd_T47 l0_4 x22_1).f1, t398, (rd_T47 l0_4 x22_1).f3, (rd_T47 l0_4 x22_1).f4⟩ : S47) (Kd.R_mono (Kd.R_tight rfl (Kd.R_mono (ok' := fun k_ => ((fun k_ => k_ ≠ gb397)) k_ ∧ some k_ ≠ (u396004 : Value).ownBlock) (Kd.R_types (Kd.R_apart' (HO400.out) (Kd.S_typed HO_396004.out) (by decide)) BK397.out (by decide)) (fun k_ hk => ⟨hk.2, hk.1.2⟩))) (fun _ h_ => h_))); (case aB => exact (bq4)); (case aF => exact (fun k_ hk => Kd.freshB (g := gb397) (o := .cells #[.int .i64 ((rd_T47 l0_4 x22_1).f0), .string ((rd_T47 l0_4 x22_1).f1), .slice Ao35 t398.length co35, .int .i64 ((rd_T47 l0_4 x22_1).f3), .string ((rd_T47 l0_4 x22_1).f4)] 47 (0, 0)) (by (with_reducible repeat (first | refine blk_drewN ?_ _ | refine blk_drew ?_ | refine blk_alloc ?_ _)); exact BK397.out) k_ hk)); (case aO => exact (by (with_reducible repeat (first | apply Kd.S_alloc | apply Kd.S_drewN | apply Kd.S_drew)); exact Kd.S_mono HO_396004.out (fun k_ hk => ⟨hk.2, fun e_ => hk.1 e_⟩))); (case aS => exact (below_size (bq4))); (case aL => have := LMc28.out; omega); intro v402 w42 ho hb hg hat; rw [← Ny401.out] at ho; have n0_ := Aside0.mk (Kd.R_over' (bq56) (Kd.S_typed (bq58)) (by decide) hg); have n1_ := Aside0.mk (Kd.R_over' (bq57) (Kd.S_typed (bq58)) (by decide) hg); have n2_ := Aside0.mk (blkG BK387.out hg (Kd.S_ne HO_396004.out BK387.out (by decide))); have n3_ := Aside0.mk (blkG BK388.out hg (Kd.S_ne HO_396004.out BK388.out (by decide))); have n4_ := Aside0.mk (blkG BK395.out hg (Kd.S_ne HO_396004.out BK395.out (by decide))); have n5_ := Aside0.mk (blkG BK397.out hg (Kd.S_away HO_396004.out (fun _ hk => hk.2))); have n6_ := Aside0.mk (hb); have n7_ := Aside0.mk (ho); clear HO_396001 HO_396003 BK387 BK388 BK395 BK397 HB HO_396004 HO400; have HO_396001 := n0_; have HO_396003 := n1_; have BK387 := n2_; have BK388 := n3_; have BK395 := n4_; have BK397 := n5_; have HB := n6_; have HO403 := n7_; clear n0_ n1_ n2_ n3_ n4_ n5_ n6_ n7_ ho hb hg hat; obtain ⟨Ao43, co43, eo43⟩ := Kd.S_slice HO403.out; subst eo43; obtain ⟨hcz44_0, hcz44_1, hcz44_2, hcz44_3, hcz44_4, hcz44_5, hfz44_0, hfz44_1, hfz44_2, hfz44_3, hfz44_4, hfz44_5⟩ := bk6 BK395.out))
       go_roundg k1
       case measure => have := HK1.out; omega
       case rel => exact ⟨(wrap64 (x22_1 + 1)), (y401), (.slice Ao43 y401.length co43), (bq78), H', ⟨by have := HK1.out; omega⟩, ⟨by (with_reducible repeat (first | apply Kd.R_alloc | apply Kd.R_drewN | apply Kd.R_drew)); exact Kd.R_mono (Kd.R_far (p := ⟨gb395, 4, none⟩) (Kd.R_types HO_396001.out BK395.out (by decide)) (fun _ hk => hk.2) (.slice Ao43 y401.length co43)) (fun _ hk => hk.1)⟩, ⟨by (with_reducible repeat (first | apply Kd.R_alloc | apply Kd.R_drewN | apply Kd.R_drew)); exact Kd.R_mono (Kd.R_far (p := ⟨gb395, 4, none⟩) (Kd.R_types HO_396003.out BK395.out (by decide)) (fun _ hk => hk.2) (.slice Ao43 y401.length co43)) (fun _ hk => hk.1)⟩, ⟨by (with_reducible repeat (first | apply Kd.S_alloc | apply Kd.S_drewN | apply Kd.S_drew)); exact Kd.S_mono (Kd.S_far (p := ⟨gb395, 4, none⟩) (Kd.S_types HO403.out BK395.out (by decide)) (fun _ hk => hk.2) (.slice Ao43 y401.length co43)) (fun _ hk => trivial)⟩, ⟨by (with_reducible repeat (first | refine blk_drewN ?_ _ | refine blk_drew ?_ | refine blk_alloc ?_ _)); refine blk_far ?_ NB387_395.out _; (with_reducible repeat (first | refine blk_drewN ?_ _ | refine blk_drew ?_ | refine blk_alloc ?_ _)); exact BK387.out⟩, ⟨by (with_reducible repeat (first | refine blk_drewN ?_ _ | refine blk_drew ?_ | refine blk_alloc ?_ _)); refine blk_far ?_ NB388_395.out _; (with_reducible repeat (first | refine blk_drewN ?_ _ | refine blk_drew ?_ | refine blk_alloc ?_ _)); exact BK388.out⟩, ⟨by (with_reducible repeat (first | refine blk_drewN ?_ _ | refine blk_drew ?_ | refine blk_alloc ?_ _)); refine blk_put (cs := #[.string a0_0, .slice Ao14 t389.length co14, .string a0_2, .slice Ao13 t392.length co13, u396004, .slice none 0 0]) ?_ 4 _ rfl; (with_reducible repeat (first | refine blk_drewN ?_ _ | refine blk_drew ?_ | refine blk_alloc ?_ _)); exact BK395.out⟩, ⟨bq4⟩⟩
      ·rw [if_neg c28] at H
       exact absurd H (by simp)
     ·rw [if_neg c26] at H
      exact absurd H (by simp)
    ·rw [if_neg c25] at H
     exact absurd H (by simp)
   ·rw [if_neg c24] at H
    have c24b0 := decide_eq_false c24
    clear c24
    have H' := Aside0.mk H
    clear H
    have hnb45 := NB387_388.out
    have hnc45 := NB388_387.out
    have hnb46 := NB387_395.out
    have hnc46 := NB395_387.out
    obtain ⟨hcz47_0, hcz47_1, hcz47_2, hcz47_3, hcz47_4, hcz47_5, hfz47_0, hfz47_1, hfz47_2, hfz47_3, hfz47_4, hfz47_5⟩ := bk6 BK387.out
    go_wp2
    go_loopg [40] k1 (fun kq v40 w' => ∃ (x40_2 : Int) (x396005_2 : List (S53)) (u396005 : Value), v40 = .int .i64 x40_2 ∧ Aside0 (ir_cloneFun.l1 kq l0_5 (l0_5.length : Int) x40_2 a0_0 t389 a0_2 t392 x396004_1 x396005_2 = some (r1, r2, r3, r4, r5, r6)) ∧ Aside0 (kq ≤ k1) ∧ Aside0 (Kd.R Kd.string 9 w' w.heap.size (fun k_ => some k_ ≠ ((.slice Ao13 t392.length co13) : Value).ownBlock) (.slice Ao14 t389.length co14) t389) ∧ Aside0 (Kd.R Kd.string 9 w' w.heap.size (fun k_ => some k_ ≠ ((.slice Ao14 t389.length co14) : Value).ownBlock) (.slice Ao13 t392.length co13) t392) ∧ Aside0 (Kd.S k47 47 w' w.heap.size (fun _ => True) u396004 x396004_1) ∧ Aside0 (Kd.S k53 53 w' w.heap.size (fun _ => True) u396005 x396005_2) ∧ Aside0 (w'.heap[gb387]? = some (.cells #[.string a0_0, (.slice A0_1 l0_1.length c0_1), .string a0_2, (.slice A0_3 l0_3.length c0_3), (.slice A0_4 l0_4.length c0_4), (.slice A0_5 l0_5.length c0_5)] 40 (0, 0))) ∧ Aside0 (w'.heap[gb388]? = some (.cells #[.string (⟨#[]⟩ : ByteArray), (.slice none 0 0), .string (⟨#[]⟩ : ByteArray), (.slice none 0 0), (.slice none 0 0), (.slice none 0 0)] 40 (0, 0))) ∧ Aside0 (w'.heap[gb395]? = some (.cells #[.string a0_0, (.slice Ao14 t389.length co14), .string a0_2, (.slice Ao13 t392.length co13), u396004, u396005] 40 (0, 0))) ∧ Aside0 (Below w.heap.size w w'))
    case atStart => exact ⟨(0), (([] : List (S53))), (.slice none 0 0), (bq78), H', ⟨Nat.le_refl _⟩, ⟨bq56⟩, ⟨bq57⟩, ⟨bq58⟩, ⟨by first | exact Kd.S_nil _ _ _ _ _ | exact Kd.N_nil _ _ _ _ _ | exact Kd.V_nil _ _ _ _ _ | exact Kd.Q_nil _ _ _ _ _ | exact Kd.R_nil _ _ _ _ _⟩, ⟨bq52⟩, ⟨bq53⟩, ⟨bq54⟩, ⟨bq12⟩⟩
    case round =>
     clear H' c24b0 hcz47_0 hcz47_1 hcz47_2 hcz47_3 hcz47_4 hcz47_5 hfz47_0 hfz47_1 hfz47_2 hfz47_3 hfz47_4 hfz47_5
     obtain ⟨x40_2, x396005_2, u396005, rfl, HA, HK2, HO_396001, HO_396003, HO_396004, HO_396005, BK387, BK388, BK395, HB⟩ := hrel
     cases gk with
     | zero => exact absurd HA.out (by simp [ir_cloneFun.l1])
     | succ k2 =>
      have H := HA.out
      clear HA
      simp only [ir_cloneFun.l1] at H
      by_cases c48 : x40_2 < (l0_5.length : Int)
      ·rw [if_pos c48] at H
       have c48b0 := decide_eq_true c48
       clear c48
       by_cases c49 : 0 ≤ x40_2
       ·rw [if_pos c49] at H
        have c49b0 := decide_eq_true c49
        clear c49
        by_cases c50 : x40_2 < (l0_5.length : Int)
        ·rw [if_pos c50] at H
         have c50b0 := decide_eq_true c50
         clear c50
         replace H := Option.bind_eq_some_iff.mp H
         obtain ⟨t406, A510, H⟩ := H
         (try dsimp only at H)
         have A51 := Aside0.mk A510
         clear A510
         by_cases c52 : x396005_2.length < 2513169434916
         ·rw [if_pos c52] at H
          have LMc52 := Aside0.mk c52
          clear c52
          obtain ⟨y409, hy409⟩ : ∃ y_ : List (S53), y_ = (x396005_2 ++ [(⟨t406, (rd_T53 l0_5 x40_2).f1, (rd_T53 l0_5 x40_2).f2, (⟨(rd_T53 l0_5 x40_2).f3.f0, (rd_T53 l0_5 x40_2).f3.f1⟩ : S51)⟩ : S53)]) := ⟨_, rfl⟩
          replace H : (ir_cloneFun.l1 k2 l0_5 (l0_5.length : Int) (wrap64 (x40_2 + 1)) a0_0 t389 a0_2 t392 x396004_1 y409) = some (r1, r2, r3, r4, r5, r6) := by first | (rw [hy409]; with_reducible exact H) | (have H2_ := (Option.bind_some _ _).symm.trans H; rw [hy409]; with_reducible exact H2_) | (have H2_ := (Option.bind_some _ _).symm.trans H; with_reducible exact H2_) | with_reducible exact H | (rw [hy409]; exact H) | exact H
          have Ny409 := Aside0.mk hy409
          clear hy409
          have H' := Aside0.mk H
          clear H
          have p404 : 0 ≤ (x40_2 : Int) := of_decide_eq_true (bq77)
          have q404 : x40_2 < (l0_5.length : Int) := of_decide_eq_true (bq77)
          obtain ⟨ad404, A404_0, c404_0, e404, hx404_0, hx404_1, hx404_2, hx404_3, hx404_4, hl404_0, hi404_0⟩ := at_T53 HR0_5.out x40_2 p404 q404
          cases e404
          replace hx404_0 := (HB.out.cell (World.block_lt_of_cell? w _ hx404_0)).trans hx404_0
          replace hx404_1 := (HB.out.cell (World.block_lt_of_cell? w _ hx404_1)).trans hx404_1
          replace hx404_2 := (HB.out.cell (World.block_lt_of_cell? w _ hx404_2)).trans hx404_2
          replace hx404_3 := (HB.out.cell (World.block_lt_of_cell? w _ hx404_3)).trans hx404_3
          replace hx404_4 := (HB.out.cell (World.block_lt_of_cell? w _ hx404_4)).trans hx404_4
          have HR404_0 := Aside0.mk hi404_0
          have HC404_0 := Aside0.mk hl404_0
          clear hi404_0 hl404_0
          replace p404 := eq_true p404
          replace q404 := eq_true q404
          go_wp2_with (first | ((with_reducible refine gate_dst (N := 7) rfl ?_); refine box_event ?hg (N := 7) ?hd (cs := #[.slice none 0 0, .int .i64 0, .int .i64 0, .int .i64 0, .int .i64 0]) (t := 53) ?hr ?_; (case hd => rfl); (case hg => rfl); (case hr => first | (go_simp; done) | (go_simp; rfl)); intro gb405 hg w53 hbox hb; have n0_ := Aside0.mk (Kd.R_below (bq56) hb); have n1_ := Aside0.mk (Kd.R_below (bq57) hb); have n2_ := Aside0.mk (Kd.S_below (bq58) hb); have n3_ := Aside0.mk (Kd.S_below (Kd.S_elderB (bq59) gb405 (Nat.le_of_eq hg.symm)) hb); have n4_ := Aside0.mk (blkB BK387.out hb); have n5_ := Aside0.mk (blkB BK388.out hb); have n6_ := Aside0.mk (blkB BK395.out hb); have n7_ := Aside0.mk (below_step (bq12) hb); have n8_ := Aside0.mk (hbox); have n9_ := Aside0.mk ((bq2 : w.heap.size ≤ gb405)); have n10_ := Aside0.mk ((bq2 : w.heap.size ≤ gb405)); have n11_ := Aside0.mk ((bq89 : gb387 ≠ gb405)); have n12_ := Aside0.mk ((bq90 : gb405 ≠ gb387)); have n13_ := Aside0.mk ((bq91 : gb388 ≠ gb405)); have n14_ := Aside0.mk ((bq92 : gb405 ≠ gb388)); have n15_ := Aside0.mk ((by rw [hg]; exact Nat.ne_of_lt (blkL BK395.out) : gb395 ≠ gb405)); have n16_ := Aside0.mk ((by rw [hg]; exact Nat.ne_of_gt (blkL BK395.out) : gb405 ≠ gb395)); clear HO_396001 HO_396003 HO_396004 HO_396005 BK387 BK388 BK395 HB; have HO_396001 := n0_; have HO_396003 := n1_; have HO_396004 := n2_; have HO_396005 := n3_; have BK387 := n4_; have BK388 := n5_; have BK395 := n6_; have HB := n7_; have BK405 := n8_; have GW405 := n9_; have GE405 := n10_; have NB387_405 := n11_; have NB405_387 := n12_; have NB388_405 := n13_; have NB405_388 := n14_; have NB395_405 := n15_; have NB405_395 := n16_; clear n0_ n1_ n2_ n3_ n4_ n5_ n6_ n7_ n8_ n9_ n10_ n11_ n12_ n13_ n14_ n15_ n16_ hb hbox hg; have hnb54 := NB405_387.out; have hnc54 := NB387_405.out; have hnb55 := NB405_388.out; have hnc55 := NB388_405.out; have hnb56 := NB405_395.out; have hnc56 := NB395_405.out; obtain ⟨hcz57_0, hcz57_1, hcz57_2, hcz57_3, hcz57_4, hfz57_0, hfz57_1, hfz57_2, hfz57_3, hfz57_4⟩ := bk5 BK405.out) | ((with_reducible refine gate_callee (f := 61) rfl ?_); refine goesL_ (some 46) rfl rfl Tryd.func61 (by kernel_rfl) rfl #[.slice A404_0 ((rd_T53 l0_5 x40_2).f0).length c404_0] rfl (bq48) ?_; (with_reducible refine (slices_Clone_int_int.calls _ _ ((rd_T53 l0_5 x40_2).f0) t406 _ ?side1 ?side2 A51.out).mono ?_); (case side1 => exact Kd.C_below HR404_0.out (bq5)); (case side2 => exact HC404_0.out); rintro e w58 ⟨v407, rfl, ho0, hb⟩; refine ⟨_, rfl, ?_⟩; have n0_ := Aside0.mk (Kd.R_below (by (with_reducible repeat (first | apply Kd.R_alloc | apply Kd.R_drewN | apply Kd.R_drew)); exact (Kd.R_mono (Kd.R_far (p := ⟨gb405, 4, none⟩) (Kd.R_far (p := ⟨gb405, 3, none⟩) (Kd.R_far (p := ⟨gb405, 2, none⟩) (Kd.R_far (p := ⟨gb405, 1, none⟩) (Kd.R_far (p := ⟨gb405, 0, none⟩) (Kd.R_types HO_396001.out BK405.out (by decide)) (fun _ hk => hk.2) (.slice A404_0 ((rd_T53 l0_5 x40_2).f0).length c404_0)) (fun _ hk => hk.2) (.int .i64 ((rd_T53 l0_5 x40_2).f1))) (fun _ hk => hk.2) (.int .i64 ((rd_T53 l0_5 x40_2).f2))) (fun _ hk => hk.2) (.int .i64 ((rd_T53 l0_5 x40_2).f3.f0))) (fun _ hk => hk.2) (.int .i64 ((rd_T53 l0_5 x40_2).f3.f1))) (fun _ h_ => h_.1))) hb); have n1_ := Aside0.mk (Kd.R_below (by (with_reducible repeat (first | apply Kd.R_alloc | apply Kd.R_drewN | apply Kd.R_drew)); exact (Kd.R_mono (Kd.R_far (p := ⟨gb405, 4, none⟩) (Kd.R_far (p := ⟨gb405, 3, none⟩) (Kd.R_far (p := ⟨gb405, 2, none⟩) (Kd.R_far (p := ⟨gb405, 1, none⟩) (Kd.R_far (p := ⟨gb405, 0, none⟩) (Kd.R_types HO_396003.out BK405.out (by decide)) (fun _ hk => hk.2) (.slice A404_0 ((rd_T53 l0_5 x40_2).f0).length c404_0)) (fun _ hk => hk.2) (.int .i64 ((rd_T53 l0_5 x40_2).f1))) (fun _ hk => hk.2) (.int .i64 ((rd_T53 l0_5 x40_2).f2))) (fun _ hk => hk.2) (.int .i64 ((rd_T53 l0_5 x40_2).f3.f0))) (fun _ hk => hk.2) (.int .i64 ((rd_T53 l0_5 x40_2).f3.f1))) (fun _ h_ => h_.1))) hb); have n2_ := Aside0.mk (Kd.S_elder' (by (with_reducible repeat (first | apply Kd.S_alloc | apply Kd.S_drewN | apply Kd.S_drew)); exact (Kd.S_mono (Kd.S_far (p := ⟨gb405, 4, none⟩) (Kd.S_far (p := ⟨gb405, 3, none⟩) (Kd.S_far (p := ⟨gb405, 2, none⟩) (Kd.S_far (p := ⟨gb405, 1, none⟩) (Kd.S_far (p := ⟨gb405, 0, none⟩) (Kd.S_types HO_396004.out BK405.out (by decide)) (fun _ hk => hk.2) (.slice A404_0 ((rd_T53 l0_5 x40_2).f0).length c404_0)) (fun _ hk => hk.2) (.int .i64 ((rd_T53 l0_5 x40_2).f1))) (fun _ hk => hk.2) (.int .i64 ((rd_T53 l0_5 x40_2).f2))) (fun _ hk => hk.2) (.int .i64 ((rd_T53 l0_5 x40_2).f3.f0))) (fun _ hk => hk.2) (.int .i64 ((rd_T53 l0_5 x40_2).f3.f1))) (fun _ h_ => h_.1))) (Kd.R_base ho0) hb); have n3_ := Aside0.mk (Kd.S_elder' (by (with_reducible repeat (first | apply Kd.S_alloc | apply Kd.S_drewN | apply Kd.S_drew)); exact (Kd.S_mono (Kd.S_far (p := ⟨gb405, 4, none⟩) (Kd.S_far (p := ⟨gb405, 3, none⟩) (Kd.S_far (p := ⟨gb405, 2, none⟩) (Kd.S_far (p := ⟨gb405, 1, none⟩) (Kd.S_far (p := ⟨gb405, 0, none⟩) (Kd.S_mono HO_396005.out (fun k_ hk => (⟨hk, hk.2⟩ : _ ∧ k_ ≠ gb405))) (fun _ hk => hk.2) (.slice A404_0 ((rd_T53 l0_5 x40_2).f0).length c404_0)) (fun _ hk => hk.2) (.int .i64 ((rd_T53 l0_5 x40_2).f1))) (fun _ hk => hk.2) (.int .i64 ((rd_T53 l0_5 x40_2).f2))) (fun _ hk => hk.2) (.int .i64 ((rd_T53 l0_5 x40_2).f3.f0))) (fun _ hk => hk.2) (.int .i64 ((rd_T53 l0_5 x40_2).f3.f1))) (fun _ h_ => h_.1))) (Kd.R_base ho0) hb); have n4_ := Aside0.mk (Kd.R_lower ho0 (below_size (bq5))); have n5_ := Aside0.mk (blk_below (g := gb387) (o := .cells #[.string a0_0, .slice A0_1 l0_1.length c0_1, .string a0_2, .slice A0_3 l0_3.length c0_3, .slice A0_4 l0_4.length c0_4, .slice (some ad404) l0_5.length c0_5] 40 (0, 0)) (by (with_reducible repeat (first | refine blk_drewN ?_ _ | refine blk_drew ?_ | refine blk_alloc ?_ _)); refine blk_far ?_ NB387_405.out _; (with_reducible repeat (first | refine blk_drewN ?_ _ | refine blk_drew ?_ | refine blk_alloc ?_ _)); refine blk_far ?_ NB387_405.out _; (with_reducible repeat (first | refine blk_drewN ?_ _ | refine blk_drew ?_ | refine blk_alloc ?_ _)); refine blk_far ?_ NB387_405.out _; (with_reducible repeat (first | refine blk_drewN ?_ _ | refine blk_drew ?_ | refine blk_alloc ?_ _)); refine blk_far ?_ NB387_405.out _; (with_reducible repeat (first | refine blk_drewN ?_ _ | refine blk_drew ?_ | refine blk_alloc ?_ _)); refine blk_far ?_ NB387_405.out _; (with_reducible repeat (first | refine blk_drewN ?_ _ | refine blk_drew ?_ | refine blk_alloc ?_ _)); exact BK387.out) hb); have n6_ := Aside0.mk (blk_below (g := gb388) (o := .cells #[.string (⟨#[]⟩ : ByteArray), .slice none 0 0, .string (⟨#[]⟩ : ByteArray), .slice none 0 0, .slice none 0 0, .slice none 0 0] 40 (0, 0)) (by (with_reducible repeat (first | refine blk_drewN ?_ _ | refine blk_drew ?_ | refine blk_alloc ?_ _)); refine blk_far ?_ NB388_405.out _; (with_reducible repeat (first | refine blk_drewN ?_ _ | refine blk_drew ?_ | refine blk_alloc ?_ _)); refine blk_far ?_ NB388_405.out _; (with_reducible repeat (first | refine blk_drewN ?_ _ | refine blk_drew ?_ | refine blk_alloc ?_ _)); refine blk_far ?_ NB388_405.out _; (with_reducible repeat (first | refine blk_drewN ?_ _ | refine blk_drew ?_ | refine blk_alloc ?_ _)); refine blk_far ?_ NB388_405.out _; (with_reducible repeat (first | refine blk_drewN ?_ _ | refine blk_drew ?_ | refine blk_alloc ?_ _)); refine blk_far ?_ NB388_405.out _; (with_reducible repeat (first | refine blk_drewN ?_ _ | refine blk_drew ?_ | refine blk_alloc ?_ _)); exact BK388.out) hb); have n7_ := Aside0.mk (blk_below (g := gb395) (o := .cells #[.string a0_0, .slice Ao14 t389.length co14, .string a0_2, .slice Ao13 t392.length co13, u396004, u396005] 40 (0, 0)) (by (with_reducible repeat (first | refine blk_drewN ?_ _ | refine blk_drew ?_ | refine blk_alloc ?_ _)); refine blk_far ?_ NB395_405.out _; (with_reducible repeat (first | refine blk_drewN ?_ _ | refine blk_drew ?_ | refine blk_alloc ?_ _)); refine blk_far ?_ NB395_405.out _; (with_reducible repeat (first | refine blk_drewN ?_ _ | refine blk_drew ?_ | refine blk_alloc ?_ _)); refine blk_far ?_ NB395_405.out _; (with_reducible repeat (first | refine blk_drewN ?_ _ | refine blk_drew ?_ | refine blk_alloc ?_ _)); refine blk_far ?_ NB395_405.out _; (with_reducible repeat (first | refine blk_drewN ?_ _ | refine blk_drew ?_ | refine blk_alloc ?_ _)); refine blk_far ?_ NB395_405.out _; (with_reducible repeat (first | refine blk_drewN ?_ _ | refine blk_drew ?_ | refine blk_alloc ?_ _)); exact BK395.out) hb); have n8_ := Aside0.mk (blk_below (g := gb405) (o := .cells #[.slice A404_0 ((rd_T53 l0_5 x40_2).f0).length c404_0, .int .i64 ((rd_T53 l0_5 x40_2).f1), .int .i64 ((rd_T53 l0_5 x40_2).f2), .int .i64 ((rd_T53 l0_5 x40_2).f3.f0), .int .i64 ((rd_T53 l0_5 x40_2).f3.f1)] 53 (0, 0)) (by (with_reducible repeat (first | refine blk_drewN ?_ _ | refine blk_drew ?_ | refine blk_alloc ?_ _)); refine blk_put (cs := #[.slice A404_0 ((rd_T53 l0_5 x40_2).f0).length c404_0, .int .i64 ((rd_T53 l0_5 x40_2).f1), .int .i64 ((rd_T53 l0_5 x40_2).f2), .int .i64 ((rd_T53 l0_5 x40_2).f3.f0), .int .i64 0]) ?_ 4 _ rfl; (with_reducible repeat (first | refine blk_drewN ?_ _ | refine blk_drew ?_ | refine blk_alloc ?_ _)); refine blk_put (cs := #[.slice A404_0 ((rd_T53 l0_5 x40_2).f0).length c404_0, .int .i64 ((rd_T53 l0_5 x40_2).f1), .int .i64 ((rd_T53 l0_5 x40_2).f2), .int .i64 0, .int .i64 0]) ?_ 3 _ rfl; (with_reducible repeat (first | refine blk_drewN ?_ _ | refine blk_drew ?_ | refine blk_alloc ?_ _)); refine blk_put (cs := #[.slice A404_0 ((rd_T53 l0_5 x40_2).f0).length c404_0, .int .i64 ((rd_T53 l0_5 x40_2).f1), .int .i64 0, .int .i64 0, .int .i64 0]) ?_ 2 _ rfl; (with_reducible repeat (first | refine blk_drewN ?_ _ | refine blk_drew ?_ | refine blk_alloc ?_ _)); refine blk_put (cs := #[.slice A404_0 ((rd_T53 l0_5 x40_2).f0).length c404_0, .int .i64 0, .int .i64 0, .int .i64 0, .int .i64 0]) ?_ 1 _ rfl; (with_reducible repeat (first | refine blk_drewN ?_ _ | refine blk_drew ?_ | refine blk_alloc ?_ _)); refine blk_put (cs := #[.slice none 0 0, .int .i64 0, .int .i64 0, .int .i64 0, .int .i64 0]) ?_ 0 _ rfl; (with_reducible repeat (first | refine blk_drewN ?_ _ | refine blk_drew ?_ | refine blk_alloc ?_ _)); exact BK405.out) hb); have n9_ := Aside0.mk (below_step (bq5) hb); clear HO_396001 HO_396003 HO_396004 HO_396005 BK387 BK388 BK395 BK405 HB; have HO_396001 := n0_; have HO_396003 := n1_; have HO_396004 := n2_; have HO_396005 := n3_; have HO408 := n4_; have BK387 := n5_; have BK388 := n6_; have BK395 := n7_; have BK405 := n8_; have HB := n9_; clear n0_ n1_ n2_ n3_ n4_ n5_ n6_ n7_ n8_ n9_ hb ho0; obtain ⟨Ao59, co59, eo59⟩ := Kd.R_slice HO408.out; subst eo59; obtain ⟨hcz60_0, hcz60_1, hcz60_2, hcz60_3, hcz60_4, hfz60_0, hfz60_1, hfz60_2, hfz60_3, hfz60_4⟩ := bk5 BK405.out) | ((with_reducible refine gate_store (t := 42) (p := 47) rfl ?_); refine store_event (t := 42) (p := 47) (v := ?vo_w61) (w1 := (w58.setCell ⟨gb405, 0, none⟩ (.slice Ao59 t406.length co59))) ?hg ?ho ?hn ?hr ?_; (case ho => rfl); (case hg => rfl); (case hn => rfl); (case hr => first | (go_simp; done) | (go_simp; rfl)); intro w61 hw; have n0_ : Aside0 (Kd.R Kd.string 9 w61 w.heap.size (fun k_ => some k_ ≠ (.slice Ao13 t392.length co13 : Value).ownBlock) (.slice Ao14 t389.length co14) t389) := ⟨(by rw [hw]; exact (by (with_reducible repeat (first | apply Kd.R_alloc | apply Kd.R_drewN | apply Kd.R_drew)); exact Kd.R_mono (Kd.R_far (p := ⟨gb405, 0, none⟩) (Kd.R_types HO_396001.out BK405.out (by decide)) (fun _ hk => hk.2) (.slice Ao59 t406.length co59)) (fun _ hk => hk.1)))⟩; have n1_ : Aside0 (Kd.R Kd.string 9 w61 w.heap.size (fun k_ => some k_ ≠ (.slice Ao14 t389.length co14 : Value).ownBlock) (.slice Ao13 t392.length co13) t392) := ⟨(by rw [hw]; exact (by (with_reducible repeat (first | apply Kd.R_alloc | apply Kd.R_drewN | apply Kd.R_drew)); exact Kd.R_mono (Kd.R_far (p := ⟨gb405, 0, none⟩) (Kd.R_types HO_396003.out BK405.out (by decide)) (fun _ hk => hk.2) (.slice Ao59 t406.length co59)) (fun _ hk => hk.1)))⟩; have n2_ : Aside0 (Kd.S k47 47 w61 w.heap.size (fun k_ => some k_ ≠ (.slice Ao59 t406.length co59 : Value).ownBlock) u396004 x396004_1) := ⟨(by rw [hw]; exact (by (with_reducible repeat (first | apply Kd.S_alloc | apply Kd.S_drewN | apply Kd.S_drew)); exact Kd.S_mono (Kd.S_far (p := ⟨gb405, 0, none⟩) (Kd.S_types HO_396004.out BK405.out (by decide)) (fun _ hk => hk.2) (.slice Ao59 t406.length co59)) (fun _ hk => hk.1.2)))⟩; have n3_ : Aside0 (Kd.S k53 53 w61 w.heap.size (fun k_ => some k_ ≠ (.slice Ao59 t406.length co59 : Value).ownBlock ∧ k_ ≠ gb405) u396005 x396005_2) := ⟨(by rw [hw]; exact (by (with_reducible repeat (first | apply Kd.S_alloc | apply Kd.S_drewN | apply Kd.S_drew)); exact Kd.S_mono (Kd.S_far (p := ⟨gb405, 0, none⟩) (Kd.S_mono HO_396005.out (fun k_ hk => (⟨hk, hk.1.2⟩ : _ ∧ k_ ≠ gb405))) (fun _ hk => hk.2) (.slice Ao59 t406.length co59)) (fun _ hk => ⟨hk.1.2, hk.1.1.2⟩)))⟩; have n4_ : Aside0 (Kd.R (Kd.int .i64) 3 w61 w.heap.size (fun _ => True) (.slice Ao59 t406.length co59) t406) := ⟨(by rw [hw]; exact (by (with_reducible repeat (first | apply Kd.R_alloc | apply Kd.R_drewN | apply Kd.R_drew)); exact Kd.R_mono (Kd.R_far (p := ⟨gb405, 0, none⟩) (Kd.R_types HO408.out BK405.out (by decide)) (fun _ hk => hk.2) (.slice Ao59 t406.length co59)) (fun _ hk => trivial)))⟩; have n5_ : Aside0 (w61.heap[gb387]? = some (.cells #[.string a0_0, .slice A0_1 l0_1.length c0_1, .string a0_2, .slice A0_3 l0_3.length c0_3, .slice A0_4 l0_4.length c0_4, .slice (some ad404) l0_5.length c0_5] 40 (0, 0))) := ⟨(by rw [hw]; exact (by (with_reducible repeat (first | refine blk_drewN ?_ _ | refine blk_drew ?_ | refine blk_alloc ?_ _)); refine blk_far ?_ NB387_405.out _; (with_reducible repeat (first | refine blk_drewN ?_ _ | refine blk_drew ?_ | refine blk_alloc ?_ _)); exact BK387.out))⟩; have n6_ : Aside0 (w61.heap[gb388]? = some (.cells #[.string (⟨#[]⟩ : ByteArray), .slice none 0 0, .string (⟨#[]⟩ : ByteArray), .slice none 0 0, .slice none 0 0, .slice none 0 0] 40 (0, 0))) := ⟨(by rw [hw]; exact (by (with_reducible repeat (first | refine blk_drewN ?_ _ | refine blk_drew ?_ | refine blk_alloc ?_ _)); refine blk_far ?_ NB388_405.out _; (with_reducible repeat (first | refine blk_drewN ?_ _ | refine blk_drew ?_ | refine blk_alloc ?_ _)); exact BK388.out))⟩; have n7_ : Aside0 (w61.heap[gb395]? = some (.cells #[.string a0_0, .slice Ao14 t389.length co14, .string a0_2, .slice Ao13 t392.length co13, u396004, u396005] 40 (0, 0))) := ⟨(by rw [hw]; exact (by (with_reducible repeat (first | refine blk_drewN ?_ _ | refine blk_drew ?_ | refine blk_alloc ?_ _)); refine blk_far ?_ NB395_405.out _; (with_reducible repeat (first | refine blk_drewN ?_ _ | refine blk_drew ?_ | refine blk_alloc ?_ _)); exact BK395.out))⟩; have n8_ : Aside0 (w61.heap[gb405]? = some (.cells #[.slice Ao59 t406.length co59, .int .i64 ((rd_T53 l0_5 x40_2).f1), .int .i64 ((rd_T53 l0_5 x40_2).f2), .int .i64 ((rd_T53 l0_5 x40_2).f3.f0), .int .i64 ((rd_T53 l0_5 x40_2).f3.f1)] 53 (0, 0))) := ⟨(by rw [hw]; exact (by (with_reducible repeat (first | refine blk_drewN ?_ _ | refine blk_drew ?_ | refine blk_alloc ?_ _)); refine blk_put (cs := #[.slice A404_0 ((rd_T53 l0_5 x40_2).f0).length c404_0, .int .i64 ((rd_T53 l0_5 x40_2).f1), .int .i64 ((rd_T53 l0_5 x40_2).f2), .int .i64 ((rd_T53 l0_5 x40_2).f3.f0), .int .i64 ((rd_T53 l0_5 x40_2).f3.f1)]) ?_ 0 _ rfl; (with_reducible repeat (first | refine blk_drewN ?_ _ | refine blk_drew ?_ | refine blk_alloc ?_ _)); exact BK405.out))⟩; have n9_ : Aside0 (Below w.heap.size w w61) := ⟨(by rw [hw]; exact (bq5))⟩; clear hw HO_396001 HO_396003 HO_396004 HO_396005 HO408 BK387 BK388 BK395 BK405 HB; have HO_396001 := n0_; have HO_396003 := n1_; have HO_396004 := n2_; have HO_396005 := n3_; have HO408 := n4_; have BK387 := n5_; have BK388 := n6_; have BK395 := n7_; have BK405 := n8_; have HB := n9_; clear n0_ n1_ n2_ n3_ n4_ n5_ n6_ n7_ n8_ n9_; have hnb62 := NB395_387.out; have hnc62 := NB387_395.out; have hnb63 := NB395_388.out; have hnc63 := NB388_395.out; obtain ⟨hcz64_0, hcz64_1, hcz64_2, hcz64_3, hcz64_4, hcz64_5, hfz64_0, hfz64_1, hfz64_2, hfz64_3, hfz64_4, hfz64_5⟩ := bk6 BK395.out; obtain ⟨hcz65_0, hcz65_1, hcz65_2, hcz65_3, hcz65_4, hfz65_0, hfz65_1, hfz65_2, hfz65_3, hfz65_4⟩ := bk5 BK405.out) | ((with_reducible refine gate_builtin (b := .append) (xs := #[.tmp 49, .tmp 51]) rfl ?_); at_builtin; refine Kd.S_append k53 (w0 := w) w.heap.size rfl (.tmp 49) (.tmp 51) 38 53 (.agg #[(.slice none 0 0), (.int .i64 0), (.int .i64 0), (.int .i64 0), (.int .i64 0)]) 56 rfl Tryd.underlying38 info53 rfl (by decide) (by omega) u396005 x396005_2 (⟨t406, (rd_T53 l0_5 x40_2).f1, (rd_T53 l0_5 x40_2).f2, (⟨(rd_T53 l0_5 x40_2).f3.f0, (rd_T53 l0_5 x40_2).f3.f1⟩ : S51)⟩ : S53) [.slice Ao59 t406.length co59, .int .i64 ((rd_T53 l0_5 x40_2).f1), .int .i64 ((rd_T53 l0_5 x40_2).f2), .int .i64 ((rd_T53 l0_5 x40_2).f3.f0), .int .i64 ((rd_T53 l0_5 x40_2).f3.f1)] (fun k_ => k_ ≠ gb405) (fun k_ => some k_ = (.slice Ao59 t406.length co59 : Value).ownBlock) rfl rfl ?aP (fun k_ hk_ => ((Kd.R_mono (ok' := fun k_ => ((fun k_ => k_ ≠ gb405)) k_ ∧ some k_ ≠ (u396005 : Value).ownBlock) (Kd.R_types (Kd.R_apart' (HO408.out) (Kd.S_typed HO_396005.out) (by decide)) BK405.out (by decide)) (fun k_ hk => ⟨hk.2, hk.1.2⟩))).1 k_ hk_.symm) ?aF ?aO ?aB ?aS ?aL ?_; (case aP => exact k53_mkM _ _ _ (⟨t406, (rd_T53 l0_5 x40_2).f1, (rd_T53 l0_5 x40_2).f2, (⟨(rd_T53 l0_5 x40_2).f3.f0, (rd_T53 l0_5 x40_2).f3.f1⟩ : S51)⟩ : S53) (Kd.R_mono (Kd.R_tight rfl (Kd.R_mono (ok' := fun k_ => ((fun k_ => k_ ≠ gb405)) k_ ∧ some k_ ≠ (u396005 : Value).ownBlock) (Kd.R_types (Kd.R_apart' (HO408.out) (Kd.S_typed HO_396005.out) (by decide)) BK405.out (by decide)) (fun k_ hk => ⟨hk.2, hk.1.2⟩))) (fun _ h_ => h_))); (case aB => exact (bq5)); (case aF => exact (fun k_ hk => Kd.freshB (g := gb405) (o := .cells #[.slice Ao59 t406.length co59, .int .i64 ((rd_T53 l0_5 x40_2).f1), .int .i64 ((rd_T53 l0_5 x40_2).f2), .int .i64 ((rd_T53 l0_5 x40_2).f3.f0), .int .i64 ((rd_T53 l0_5 x40_2).f3.f1)] 53 (0, 0)) (by (with_reducible repeat (first | refine blk_drewN ?_ _ | refine blk_drew ?_ | refine blk_alloc ?_ _)); exact BK405.out) k_ hk)); (case aO => exact (by (with_reducible repeat (first | apply Kd.S_alloc | apply Kd.S_drewN | apply Kd.S_drew)); exact Kd.S_mono HO_396005.out (fun k_ hk => ⟨hk.2, fun e_ => hk.1 e_⟩))); (case aS => exact (below_size (bq5))); (case aL => have := LMc52.out; omega); intro v410 w66 ho hb hg hat; rw [← Ny409.out] at ho; have n0_ := Aside0.mk (Kd.R_over' (bq56) (Kd.S_typed (bq59)) (by decide) hg); have n1_ := Aside0.mk (Kd.R_over' (bq57) (Kd.S_typed (bq59)) (by decide) hg); have n2_ := Aside0.mk (Kd.S_over' (bq58) (Kd.S_typed (bq59)) (by decide) hg); have n3_ := Aside0.mk (blkG BK387.out hg (Kd.S_ne HO_396005.out BK387.out (by decide))); have n4_ := Aside0.mk (blkG BK388.out hg (Kd.S_ne HO_396005.out BK388.out (by decide))); have n5_ := Aside0.mk (blkG BK395.out hg (Kd.S_ne HO_396005.out BK395.out (by decide))); have n6_ := Aside0.mk (blkG BK405.out hg (Kd.S_away HO_396005.out (fun _ hk => hk.2))); have n7_ := Aside0.mk (hb); have n8_ := Aside0.mk (ho); clear HO_396001 HO_396003 HO_396004 BK387 BK388 BK395 BK405 HB HO_396005 HO408; have HO_396001 := n0_; have HO_396003 := n1_; have HO_396004 := n2_; have BK387 := n3_; have BK388 := n4_; have BK395 := n5_; have BK405 := n6_; have HB := n7_; have HO411 := n8_; clear n0_ n1_ n2_ n3_ n4_ n5_ n6_ n7_ n8_ ho hb hg hat; obtain ⟨Ao67, co67, eo67⟩ := Kd.S_slice HO411.out; subst eo67; obtain ⟨hcz68_0, hcz68_1, hcz68_2, hcz68_3, hcz68_4, hcz68_5, hfz68_0, hfz68_1, hfz68_2, hfz68_3, hfz68_4, hfz68_5⟩ := bk6 BK395.out))
          go_roundg k2
          case measure => have := HK1.out; have := HK2.out; omega
          case rel => exact ⟨(wrap64 (x40_2 + 1)), (y409), (.slice Ao67 y409.length co67), (bq78), H', ⟨by have := HK1.out; have := HK2.out; omega⟩, ⟨by (with_reducible repeat (first | apply Kd.R_alloc | apply Kd.R_drewN | apply Kd.R_drew)); exact Kd.R_mono (Kd.R_far (p := ⟨gb395, 5, none⟩) (Kd.R_types HO_396001.out BK395.out (by decide)) (fun _ hk => hk.2) (.slice Ao67 y409.length co67)) (fun _ hk => hk.1)⟩, ⟨by (with_reducible repeat (first | apply Kd.R_alloc | apply Kd.R_drewN | apply Kd.R_drew)); exact Kd.R_mono (Kd.R_far (p := ⟨gb395, 5, none⟩) (Kd.R_types HO_396003.out BK395.out (by decide)) (fun _ hk => hk.2) (.slice Ao67 y409.length co67)) (fun _ hk => hk.1)⟩, ⟨by (with_reducible repeat (first | apply Kd.S_alloc | apply Kd.S_drewN | apply Kd.S_drew)); exact Kd.S_mono (Kd.S_far (p := ⟨gb395, 5, none⟩) (Kd.S_types HO_396004.out BK395.out (by decide)) (fun _ hk => hk.2) (.slice Ao67 y409.length co67)) (fun _ hk => trivial)⟩, ⟨by (with_reducible repeat (first | apply Kd.S_alloc | apply Kd.S_drewN | apply Kd.S_drew)); exact Kd.S_mono (Kd.S_far (p := ⟨gb395, 5, none⟩) (Kd.S_types HO411.out BK395.out (by decide)) (fun _ hk => hk.2) (.slice Ao67 y409.length co67)) (fun _ hk => trivial)⟩, ⟨by (with_reducible repeat (first | refine blk_drewN ?_ _ | refine blk_drew ?_ | refine blk_alloc ?_ _)); refine blk_far ?_ NB387_395.out _; (with_reducible repeat (first | refine blk_drewN ?_ _ | refine blk_drew ?_ | refine blk_alloc ?_ _)); exact BK387.out⟩, ⟨by (with_reducible repeat (first | refine blk_drewN ?_ _ | refine blk_drew ?_ | refine blk_alloc ?_ _)); refine blk_far ?_ NB388_395.out _; (with_reducible repeat (first | refine blk_drewN ?_ _ | refine blk_drew ?_ | refine blk_alloc ?_ _)); exact BK388.out⟩, ⟨by (with_reducible repeat (first | refine blk_drewN ?_ _ | refine blk_drew ?_ | refine blk_alloc ?_ _)); refine blk_put (cs := #[.string a0_0, .slice Ao14 t389.length co14, .string a0_2, .slice Ao13 t392.length co13, u396004, u396005]) ?_ 5 _ rfl; (with_reducible repeat (first | refine blk_drewN ?_ _ | refine blk_drew ?_ | refine blk_alloc ?_ _)); exact BK395.out⟩, ⟨bq5⟩⟩
         ·rw [if_neg c52] at H
          exact absurd H (by simp)
        ·rw [if_neg c50] at H
         exact absurd H (by simp)
       ·rw [if_neg c49] at H
        exact absurd H (by simp)
      ·rw [if_neg c48] at H
       have c48b0 := decide_eq_false c48
       clear c48
       simp only [Option.some.injEq, Prod.mk.injEq] at H
       obtain ⟨rfl, rfl, rfl, rfl, rfl, rfl⟩ := H
       have hnb69 := NB395_387.out
       have hnc69 := NB387_395.out
       have hnb70 := NB395_388.out
       have hnc70 := NB388_395.out
       obtain ⟨hcz71_0, hcz71_1, hcz71_2, hcz71_3, hcz71_4, hcz71_5, hfz71_0, hfz71_1, hfz71_2, hfz71_3, hfz71_4, hfz71_5⟩ := bk6 BK395.out
       have hnb72 := NB388_387.out
       have hnc72 := NB387_388.out
       obtain ⟨hcz73_0, hcz73_1, hcz73_2, hcz73_3, hcz73_4, hcz73_5, hfz73_0, hfz73_1, hfz73_2, hfz73_3, hfz73_4, hfz73_5⟩ := bk6 BK388.out
       obtain ⟨Ao74, co74, eo74⟩ := Kd.S_slice HO_396004.out
       subst eo74
       obtain ⟨Ao75, co75, eo75⟩ := Kd.S_slice HO_396005.out
       subst eo75
       go_wp2
       refine bodyPost_ret (results_cell_row rfl _ _ gb388 40 #[.string a0_0, .slice Ao14 t389.length co14, .string a0_2, .slice Ao13 t392.length co13, .slice Ao74 x396004_1.length co74, .slice Ao75 x396005_2.length co75] (0, 0) _ rfl (by (with_reducible repeat (first | refine blk_drewN ?_ _ | refine blk_drew ?_ | refine blk_alloc ?_ _)); refine blk_put (cs := #[.string a0_0, .slice Ao14 t389.length co14, .string a0_2, .slice Ao13 t392.length co13, .slice Ao74 x396004_1.length co74, .slice none 0 0]) ?_ 5 _ rfl; (with_reducible repeat (first | refine blk_drewN ?_ _ | refine blk_drew ?_ | refine blk_alloc ?_ _)); refine blk_put (cs := #[.string a0_0, .slice Ao14 t389.length co14, .string a0_2, .slice Ao13 t392.length co13, .slice none 0 0, .slice none 0 0]) ?_ 4 _ rfl; (with_reducible repeat (first | refine blk_drewN ?_ _ | refine blk_drew ?_ | refine blk_alloc ?_ _)); refine blk_put (cs := #[.string a0_0, .slice Ao14 t389.length co14, .string a0_2, .slice none 0 0, .slice none 0 0, .slice none 0 0]) ?_ 3 _ rfl; (with_reducible repeat (first | refine blk_drewN ?_ _ | refine blk_drew ?_ | refine blk_alloc ?_ _)); refine blk_put (cs := #[.string a0_0, .slice Ao14 t389.length co14, .string (⟨#[]⟩ : ByteArray), .slice none 0 0, .slice none 0 0, .slice none 0 0]) ?_ 2 _ rfl; (with_reducible repeat (first | refine blk_drewN ?_ _ | refine blk_drew ?_ | refine blk_alloc ?_ _)); refine blk_put (cs := #[.string a0_0, .slice none 0 0, .string (⟨#[]⟩ : ByteArray), .slice none 0 0, .slice none 0 0, .slice none 0 0]) ?_ 1 _ rfl; (with_reducible repeat (first | refine blk_drewN ?_ _ | refine blk_drew ?_ | refine blk_alloc ?_ _)); refine blk_put (cs := #[.string (⟨#[]⟩ : ByteArray), .slice none 0 0, .string (⟨#[]⟩ : ByteArray), .slice none 0 0, .slice none 0 0, .slice none 0 0]) ?_ 0 _ rfl; (with_reducible repeat (first | refine blk_drewN ?_ _ | refine blk_drew ?_ | refine blk_alloc ?_ _)); exact BK388.out) Tryd.underlying40 rfl (by kernel_rfl)) rfl ?_
       exact ⟨_, _, _, _, by first | rfl | (simp [errW_none, errW_some] <;> rfl) | (simp [*, errW_none, errW_some] <;> rfl), by (with_reducible repeat (first | apply Kd.R_alloc | apply Kd.R_drewN | apply Kd.R_drew)); exact Kd.R_mono (Kd.R_far (p := ⟨gb388, 5, none⟩) (Kd.R_far (p := ⟨gb388, 4, none⟩) (Kd.R_far (p := ⟨gb388, 3, none⟩) (Kd.R_far (p := ⟨gb388, 2, none⟩) (Kd.R_far (p := ⟨gb388, 1, none⟩) (Kd.R_far (p := ⟨gb388, 0, none⟩) (Kd.R_types HO_396001.out BK388.out (by decide)) (fun _ hk => hk.2) (.string a0_0)) (fun _ hk => hk.2) (.slice Ao14 t389.length co14)) (fun _ hk => hk.2) (.string a0_2)) (fun _ hk => hk.2) (.slice Ao13 t392.length co13)) (fun _ hk => hk.2) (.slice Ao74 x396004_1.length co74)) (fun _ hk => hk.2) (.slice Ao75 x396005_2.length co75)) (fun _ hk => hk.1), by (with_reducible repeat (first | apply Kd.R_alloc | apply Kd.R_drewN | apply Kd.R_drew)); exact Kd.R_mono (Kd.R_far (p := ⟨gb388, 5, none⟩) (Kd.R_far (p := ⟨gb388, 4, none⟩) (Kd.R_far (p := ⟨gb388, 3, none⟩) (Kd.R_far (p := ⟨gb388, 2, none⟩) (Kd.R_far (p := ⟨gb388, 1, none⟩) (Kd.R_far (p := ⟨gb388, 0, none⟩) (Kd.R_types HO_396003.out BK388.out (by decide)) (fun _ hk => hk.2) (.string a0_0)) (fun _ hk => hk.2) (.slice Ao14 t389.length co14)) (fun _ hk => hk.2) (.string a0_2)) (fun _ hk => hk.2) (.slice Ao13 t392.length co13)) (fun _ hk => hk.2) (.slice Ao74 x396004_1.length co74)) (fun _ hk => hk.2) (.slice Ao75 x396005_2.length co75)) (fun _ hk => hk.1), by (with_reducible repeat (first | apply Kd.S_alloc | apply Kd.S_drewN | apply Kd.S_drew)); exact Kd.S_mono (Kd.S_far (p := ⟨gb388, 5, none⟩) (Kd.S_far (p := ⟨gb388, 4, none⟩) (Kd.S_far (p := ⟨gb388, 3, none⟩) (Kd.S_far (p := ⟨gb388, 2, none⟩) (Kd.S_far (p := ⟨gb388, 1, none⟩) (Kd.S_far (p := ⟨gb388, 0, none⟩) (Kd.S_types HO_396004.out BK388.out (by decide)) (fun _ hk => hk.2) (.string a0_0)) (fun _ hk => hk.2) (.slice Ao14 t389.length co14)) (fun _ hk => hk.2) (.string a0_2)) (fun _ hk => hk.2) (.slice Ao13 t392.length co13)) (fun _ hk => hk.2) (.slice Ao74 x396004_1.length co74)) (fun _ hk => hk.2) (.slice Ao75 x396005_2.length co75)) (fun _ hk => trivial), by (with_reducible repeat (first | apply Kd.S_alloc | apply Kd.S_drewN | apply Kd.S_drew)); exact Kd.S_mono (Kd.S_far (p := ⟨gb388, 5, none⟩) (Kd.S_far (p := ⟨gb388, 4, none⟩) (Kd.S_far (p := ⟨gb388, 3, none⟩) (Kd.S_far (p := ⟨gb388, 2, none⟩) (Kd.S_far (p := ⟨gb388, 1, none⟩) (Kd.S_far (p := ⟨gb388, 0, none⟩) (Kd.S_types HO_396005.out BK388.out (by decide)) (fun _ hk => hk.2) (.string a0_0)) (fun _ hk => hk.2) (.slice Ao14 t389.length co14)) (fun _ hk => hk.2) (.string a0_2)) (fun _ hk => hk.2) (.slice Ao13 t392.length co13)) (fun _ hk => hk.2) (.slice Ao74 x396004_1.length co74)) (fun _ hk => hk.2) (.slice Ao75 x396005_2.length co75)) (fun _ hk => trivial), bq12⟩
/-! ### ir_Clone: function 27 -/
mutual
def ir_Clone.l0 : Nat → List (S58) → Int → Int → List (S58) → List (S61) → List (S40) → List (S58) → List (S61) → Option ((List (S58)) × (List (S61)) × (List (S40)))
 | 0, _, _, _, _, _, _, _, _ => none
 | k + 1, x13, x14, x15, x413000, x413001, x413002, x418000, x418001 => if x15 < x14 then (if 0 ≤ x15 then (if x15 < (x13.length : Int) then ((api_Field_43.f ((rd_T58 x13 x15).f1)).bind fun t420 => (if x418000.length < 3518437208883 then (ir_Clone.l0 k x13 x14 (wrap64 (x15 + 1)) x413000 x413001 x413002 (x418000 ++ [(⟨(rd_T58 x13 x15).f0, t420⟩ : S58)]) x418001) else (none))) else (none)) else (none)) else (ir_Clone.l1 k x413002 (x413002.length : Int) 0 x418000 x418001 ([] : List (S40)))
def ir_Clone.l1 : Nat → List (S40) → Int → Int → List (S58) → List (S61) → List (S40) → Option ((List (S58)) × (List (S61)) × (List (S40)))
 | 0, _, _, _, _, _, _ => none
 | k + 1, x32, x33, x34, x418000, x418001, x418002 => if x34 < x33 then (if 0 ≤ x34 then (if x34 < (x32.length : Int) then ((ir_cloneFun.f k ((rd_T40 x32 x34).f0) ((rd_T40 x32 x34).f1) ((rd_T40 x32 x34).f2) ((rd_T40 x32 x34).f3) ((rd_T40 x32 x34).f4) ((rd_T40 x32 x34).f5)).bind fun bt428 => (if x418002.length < 1099511627776 then (ir_Clone.l1 k x32 x33 (wrap64 (x34 + 1)) x418000 x418001 (x418002 ++ [(⟨bt428.1, bt428.2.1, bt428.2.2.1, bt428.2.2.2.1, bt428.2.2.2.2.1, bt428.2.2.2.2.2⟩ : S40)])) else (none))) else (none)) else (none)) else (some (x418000, x418001, x418002))
end
def ir_Clone.f (k : Nat) (l0_0 : List (S58)) (l0_1 : List (S61)) (l0_2 : List (S40)) : Option ((List (S58)) × (List (S61)) × (List (S40))) := (api_Field_43.f l0_1).bind fun t414 => (ir_Clone.l0 k l0_0 (l0_0.length : Int) 0 l0_0 l0_1 l0_2 ([] : List (S58)) t414)
theorem ir_Clone.mono_l : ∀ k, (∀ y0 y1 y2 y3 y4 y5 y6 y7, LeO (ir_Clone.l0 k y0 y1 y2 y3 y4 y5 y6 y7) (ir_Clone.l0 (k + 1) y0 y1 y2 y3 y4 y5 y6 y7)) ∧ (∀ y0 y1 y2 y3 y4 y5, LeO (ir_Clone.l1 k y0 y1 y2 y3 y4 y5) (ir_Clone.l1 (k + 1) y0 y1 y2 y3 y4 y5))
 | 0 => ⟨fun _ _ _ _ _ _ _ _ r h => by simp [ir_Clone.l0] at h, fun _ _ _ _ _ _ r h => by simp [ir_Clone.l1] at h⟩
 | k + 1 => by
  obtain ⟨ih0, ih1⟩ := ir_Clone.mono_l k
  refine ⟨?_, ?_⟩
  ·intro y0 y1 y2 y3 y4 y5 y6 y7
   unfold ir_Clone.l0
   repeat' first
   | (with_reducible exact ih0 _ _ _ _ _ _ _ _)
   | (with_reducible exact ih1 _ _ _ _ _ _)
   | (with_reducible exact LeO.refl _)
   | (with_reducible refine LeO.ite ?_ ?_)
   | (with_reducible refine LeO.bind ?_ (fun _ => ?_))
  ·intro y0 y1 y2 y3 y4 y5
   unfold ir_Clone.l1
   repeat' first
   | (with_reducible exact ih1 _ _ _ _ _ _)
   | (with_reducible exact ir_cloneFun.mono _ _ _ _ _ _ _)
   | (with_reducible exact LeO.refl _)
   | (with_reducible refine LeO.ite ?_ ?_)
   | (with_reducible refine LeO.bind ?_ (fun _ => ?_))
theorem ir_Clone.mono : ∀ a0 a1 a2 k, LeO (ir_Clone.f k a0 a1 a2) (ir_Clone.f (k + 1) a0 a1 a2) := by
 intro a0 a1 a2 k
 obtain ⟨ih0, ih1⟩ := ir_Clone.mono_l k
 unfold ir_Clone.f
 repeat' first
   | (with_reducible exact ih0 _ _ _ _ _ _ _ _)
   | (with_reducible exact LeO.refl _)
   | (with_reducible refine LeO.bind ?_ (fun _ => ?_))
def ir_Clone.T5 : Bool × List (List Nat × List Nat) := (true, [([], []), ([0], [0]), ([], []), ([2], [2]), ([], []), ([4], [4]), ([5], [5]), ([3, 6], [3, 6]), ([7], [7]), ([1, 8, 6], [1, 8]), ([0, 1, 2, 3, 4, 5, 6, 7, 8, 9], []), ([10, 9, 9, 0, 1, 2, 3, 4, 5, 6, 7, 8, 9], [9, 10])])
def ir_Clone.B5 : List Nat := [0, 1, 0, 4, 0, 16, 48, 124, 252, 511, 1023, 2047]
theorem ir_Clone.tab5 : rtab .any (opsOf Tryd.f27 5) = ir_Clone.T5 := by kernel_rfl
theorem ir_Clone.bits5 : waitsOk ir_Clone.T5.2 ir_Clone.B5 = true := by kernel_rfl
def ir_Clone.T10 : Bool × List (List Nat × List Nat) := (true, [([], []), ([0], [0]), ([], []), ([2], [2]), ([3], [3]), ([1, 4, 3], [1, 4]), ([0, 1, 2, 3, 4, 5], []), ([6, 5, 5, 0, 1, 2, 3, 4, 5], [5, 6])])
def ir_Clone.B10 : List Nat := [0, 1, 0, 4, 12, 31, 63, 127]
theorem ir_Clone.tab10 : rtab .any (opsOf Tryd.f27 10) = ir_Clone.T10 := by kernel_rfl
theorem ir_Clone.bits10 : waitsOk ir_Clone.T10.2 ir_Clone.B10 = true := by kernel_rfl
set_option maxHeartbeats 8000000 in
set_option maxRecDepth 100000 in
theorem ir_Clone.calls (k : Nat) (A0_0 : Option Addr) (c0_0 : Nat) (l0_0 : List (S58)) (A0_1 : Option Addr) (c0_1 : Nat) (l0_1 : List (S61)) (A0_2 : Option Addr) (c0_2 : Nat) (l0_2 : List (S40)) (r1 : List (S58)) (r2 : List (S61)) (r3 : List (S40)) (w : World) (hr0_0 : Kd.C k58 w A0_0 l0_0.length l0_0) (hc0_0 : l0_0.length ≤ c0_0) (hr0_1 : Kd.C k61 w A0_1 l0_1.length l0_1) (hc0_1 : l0_1.length ≤ c0_1) (hr0_2 : Kd.C k40 w A0_2 l0_2.length l0_2) (hc0_2 : l0_2.length ≤ c0_2) (h : ir_Clone.f k l0_0 l0_1 l0_2 = some (r1, r2, r3)) :
  Calls Tryd.prog 27 #[.agg #[.slice A0_0 l0_0.length c0_0, .slice A0_1 l0_1.length c0_1, .slice A0_2 l0_2.length c0_2]] w fun e w' => ∃ v0_ v1_ v2_ : Value, e = .returned (.agg #[v0_, v1_, v2_]) ∧ Kd.S k58 58 w' w.heap.size (fun k_ => some k_ ≠ (v1_ : Value).ownBlock) v0_ r1 ∧ Kd.R k61 61 w' w.heap.size (fun _ => True) v1_ r2 ∧ Kd.R k40 40 w' w.heap.size (fun _ => True) v2_ r3 ∧ Below w.heap.size w w' := by
 have hu26 := Tryd.underlying26
 have hu58 := Tryd.underlying58
 have hu40 := Tryd.underlying40
 have HR0_0 := Aside0.mk hr0_0
 have HC0_0 := Aside0.mk hc0_0
 clear hr0_0 hc0_0
 have HR0_1 := Aside0.mk hr0_1
 have HC0_1 := Aside0.mk hc0_1
 clear hr0_1 hc0_1
 have HR0_2 := Aside0.mk hr0_2
 have HC0_2 := Aside0.mk hc0_2
 clear hr0_2 hc0_2
 have HB := Aside0.mk (Below.refl w.heap.size w)
 have H : ((api_Field_43.f l0_1).bind fun t414 => (ir_Clone.l0 k l0_0 (l0_0.length : Int) 0 l0_0 l0_1 l0_2 ([] : List (S58)) t414)) = some (r1, r2, r3) := h
 clear h
 replace H := Option.bind_eq_some_iff.mp H
 obtain ⟨t414, A20, H⟩ := H
 (try dsimp only at H)
 have A2 := Aside0.mk A20
 clear A20
 have H' := Aside0.mk H
 clear H
 go_enter Tryd.func27, Tryd.ntmps27
 go_wp2_with (first | ((with_reducible refine gate_dst (N := 1) rfl ?_); refine box_event ?hg (N := 1) ?hd (cs := #[.slice A0_0 l0_0.length c0_0, .slice A0_1 l0_1.length c0_1, .slice A0_2 l0_2.length c0_2]) (t := 26) ?hr ?_; (case hd => rfl); (case hg => rfl); (case hr => first | (go_simp; done) | (go_simp; rfl)); intro gb412 hg w3 hbox hb; have n0_ := Aside0.mk (below_step (bq51) hb); have n1_ := Aside0.mk (hbox); have n2_ := Aside0.mk ((bq35 : w.heap.size ≤ gb412)); have n3_ := Aside0.mk ((bq35 : w.heap.size ≤ gb412)); clear HB; have HB := n0_; have BK412 := n1_; have GW412 := n2_; have GE412 := n3_; clear n0_ n1_ n2_ n3_ hb hbox hg) | ((with_reducible refine gate_dst (N := 2) rfl ?_); refine box_event ?hg (N := 2) ?hd (cs := #[.slice none 0 0, .slice none 0 0, .slice none 0 0]) (t := 26) ?hr ?_; (case hd => rfl); (case hg => rfl); (case hr => first | (go_simp; done) | (go_simp; rfl)); intro gb413 hg w4 hbox hb; have n0_ := Aside0.mk (blkB BK412.out hb); have n1_ := Aside0.mk (below_step (by repeat (first | (with_reducible first | exact HB.out | apply below_alloc | apply pw_below_drewN | apply below_drew1 | refine below_set ?_ GE412.out) | exact HB.out)) hb); have n2_ := Aside0.mk (hbox); have n3_ := Aside0.mk ((bq24 : w.heap.size ≤ gb413)); have n4_ := Aside0.mk ((bq24 : w.heap.size ≤ gb413)); have n5_ := Aside0.mk ((bq93 : gb412 ≠ gb413)); have n6_ := Aside0.mk ((bq94 : gb413 ≠ gb412)); clear BK412 HB; have BK412 := n0_; have HB := n1_; have BK413 := n2_; have GW413 := n3_; have GE413 := n4_; have NB412_413 := n5_; have NB413_412 := n6_; clear n0_ n1_ n2_ n3_ n4_ n5_ n6_ hb hbox hg; have hnb5 := NB412_413.out; have hnc5 := NB413_412.out; obtain ⟨hcz6_0, hcz6_1, hcz6_2, hfz6_0, hfz6_1, hfz6_2⟩ := bk3 BK412.out) | ((with_reducible refine gate_callee (f := 43) rfl ?_); refine goesL_ (some 10) rfl rfl Tryd.func43 (by kernel_rfl) rfl #[.slice A0_1 l0_1.length c0_1] rfl (bq48) ?_; (with_reducible refine (api_Field_43.calls _ _ l0_1 t414 _ ?side1 ?side2 A2.out).mono ?_); (case side1 => repeat (first | exact (Kd.C_below HR0_1.out HB.out) | (with_reducible refine Kd.C_alloc ?_ _) | (with_reducible refine Kd.C_drewN ?_ _) | (with_reducible refine Kd.C_drew ?_))); (case side2 => exact HC0_1.out); rintro e w7 ⟨v415, rfl, ho0, hb⟩; refine ⟨_, rfl, ?_⟩; have n0_ := Aside0.mk (Kd.R_lower ho0 (below_size (bq34))); have n1_ := Aside0.mk (blkB BK412.out hb); have n2_ := Aside0.mk (blkB BK413.out hb); have n3_ := Aside0.mk (below_step (bq34) hb); clear BK412 BK413 HB; have HO416 := n0_; have BK412 := n1_; have BK413 := n2_; have HB := n3_; clear n0_ n1_ n2_ n3_ hb ho0; obtain ⟨Ao8, co8, eo8⟩ := Kd.R_slice HO416.out; subst eo8) | ((with_reducible refine gate_dst (N := 3) rfl ?_); refine box_event ?hg (N := 3) ?hd (cs := #[.slice none 0 0, .slice none 0 0, .slice none 0 0]) (t := 26) ?hr ?_; (case hd => rfl); (case hg => rfl); (case hr => first | (go_simp; done) | (go_simp; rfl)); intro gb417 hg w9 hbox hb; have n0_ := Aside0.mk (Kd.R_below (by (with_reducible repeat (first | apply Kd.R_alloc | apply Kd.R_drewN | apply Kd.R_drew)); exact HO416.out) hb); have n1_ := Aside0.mk (blkB BK412.out hb); have n2_ := Aside0.mk (blkB BK413.out hb); have n3_ := Aside0.mk (below_step (bq34) hb); have n4_ := Aside0.mk (hbox); have n5_ := Aside0.mk ((bq10 : w.heap.size ≤ gb417)); have n6_ := Aside0.mk ((bq10 : w.heap.size ≤ gb417)); have n7_ := Aside0.mk ((bq93 : gb412 ≠ gb417)); have n8_ := Aside0.mk ((bq94 : gb417 ≠ gb412)); have n9_ := Aside0.mk ((bq95 : gb413 ≠ gb417)); have n10_ := Aside0.mk ((bq96 : gb417 ≠ gb413)); clear HO416 BK412 BK413 HB; have HO416 := n0_; have BK412 := n1_; have BK413 := n2_; have HB := n3_; have BK417 := n4_; have GW417 := n5_; have GE417 := n6_; have NB412_417 := n7_; have NB417_412 := n8_; have NB413_417 := n9_; have NB417_413 := n10_; clear n0_ n1_ n2_ n3_ n4_ n5_ n6_ n7_ n8_ n9_ n10_ hb hbox hg; have hnb10 := NB417_412.out; have hnc10 := NB412_417.out; have hnb11 := NB417_413.out; have hnc11 := NB413_417.out; obtain ⟨hcz12_0, hcz12_1, hcz12_2, hfz12_0, hfz12_1, hfz12_2⟩ := bk3 BK417.out; obtain ⟨hcz13_0, hcz13_1, hcz13_2, hfz13_0, hfz13_1, hfz13_2⟩ := bk3 BK412.out))
 go_loopg [15] k (fun kq v15 w' => ∃ (x15_1 : Int) (x418000_1 : List (S58)) (u418000 : Value), v15 = .int .i64 x15_1 ∧ Aside0 (ir_Clone.l0 kq l0_0 (l0_0.length : Int) x15_1 l0_0 l0_1 l0_2 x418000_1 t414 = some (r1, r2, r3)) ∧ Aside0 (kq ≤ k) ∧ Aside0 (Kd.S k58 58 w' w.heap.size (fun k_ => some k_ ≠ ((.slice Ao8 t414.length co8) : Value).ownBlock) u418000 x418000_1) ∧ Aside0 (Kd.R k61 61 w' w.heap.size (fun _ => True) (.slice Ao8 t414.length co8) t414) ∧ Aside0 (w'.heap[gb412]? = some (.cells #[(.slice A0_0 l0_0.length c0_0), (.slice A0_1 l0_1.length c0_1), (.slice A0_2 l0_2.length c0_2)] 26 (0, 0))) ∧ Aside0 (w'.heap[gb413]? = some (.cells #[(.slice none 0 0), (.slice none 0 0), (.slice none 0 0)] 26 (0, 0))) ∧ Aside0 (w'.heap[gb417]? = some (.cells #[u418000, (.slice Ao8 t414.length co8), (.slice none 0 0)] 26 (0, 0))) ∧ Aside0 (Below w.heap.size w w'))
 case atStart => exact ⟨(0), (([] : List (S58))), (.slice none 0 0), (bq78), H', ⟨Nat.le_refl _⟩, ⟨by first | exact Kd.S_nil _ _ _ _ _ | exact Kd.N_nil _ _ _ _ _ | exact Kd.V_nil _ _ _ _ _ | exact Kd.Q_nil _ _ _ _ _ | exact Kd.R_nil _ _ _ _ _⟩, ⟨by (with_reducible repeat (first | apply Kd.R_alloc | apply Kd.R_drewN | apply Kd.R_drew)); exact Kd.R_mono (Kd.R_far (p := ⟨gb417, 2, none⟩) (Kd.R_far (p := ⟨gb417, 1, none⟩) (Kd.R_far (p := ⟨gb417, 0, none⟩) (Kd.R_types HO416.out BK417.out (by decide)) (fun _ hk => hk.2) (.slice none 0 0)) (fun _ hk => hk.2) (.slice Ao8 t414.length co8)) (fun _ hk => hk.2) (.slice none 0 0)) (fun _ hk => trivial)⟩, ⟨by (with_reducible repeat (first | refine blk_drewN ?_ _ | refine blk_drew ?_ | refine blk_alloc ?_ _)); refine blk_far ?_ NB412_417.out _; (with_reducible repeat (first | refine blk_drewN ?_ _ | refine blk_drew ?_ | refine blk_alloc ?_ _)); refine blk_far ?_ NB412_417.out _; (with_reducible repeat (first | refine blk_drewN ?_ _ | refine blk_drew ?_ | refine blk_alloc ?_ _)); refine blk_far ?_ NB412_417.out _; (with_reducible repeat (first | refine blk_drewN ?_ _ | refine blk_drew ?_ | refine blk_alloc ?_ _)); exact BK412.out⟩, ⟨by (with_reducible repeat (first | refine blk_drewN ?_ _ | refine blk_drew ?_ | refine blk_alloc ?_ _)); refine blk_far ?_ NB413_417.out _; (with_reducible repeat (first | refine blk_drewN ?_ _ | refine blk_drew ?_ | refine blk_alloc ?_ _)); refine blk_far ?_ NB413_417.out _; (with_reducible repeat (first | refine blk_drewN ?_ _ | refine blk_drew ?_ | refine blk_alloc ?_ _)); refine blk_far ?_ NB413_417.out _; (with_reducible repeat (first | refine blk_drewN ?_ _ | refine blk_drew ?_ | refine blk_alloc ?_ _)); exact BK413.out⟩, ⟨by (with_reducible repeat (first | refine blk_drewN ?_ _ | refine blk_drew ?_ | refine blk_alloc ?_ _)); refine blk_put (cs := #[.slice none 0 0, .slice Ao8 t414.length co8, .slice none 0 0]) ?_ 2 _ rfl; (with_reducible repeat (first | refine blk_drewN ?_ _ | refine blk_drew ?_ | refine blk_alloc ?_ _)); refine blk_put (cs := #[.slice none 0 0, .slice none 0 0, .slice none 0 0]) ?_ 1 _ rfl; (with_reducible repeat (first | refine blk_drewN ?_ _ | refine blk_drew ?_ | refine blk_alloc ?_ _)); refine blk_put (cs := #[.slice none 0 0, .slice none 0 0, .slice none 0 0]) ?_ 0 _ rfl; (with_reducible repeat (first | refine blk_drewN ?_ _ | refine blk_drew ?_ | refine blk_alloc ?_ _)); exact BK417.out⟩, ⟨bq13⟩⟩
 case round =>
  clear H' hcz12_0 hcz12_1 hcz12_2 hcz13_0 hcz13_1 hcz13_2 hcz6_0 hcz6_1 hcz6_2 hfz12_0 hfz12_1 hfz12_2 hfz13_0 hfz13_1 hfz13_2 hfz6_0 hfz6_1 hfz6_2
  obtain ⟨x15_1, x418000_1, u418000, rfl, HA, HK1, HO_418000, HO_418001, BK412, BK413, BK417, HB⟩ := hrel
  cases gk with
  | zero => exact absurd HA.out (by simp [ir_Clone.l0])
  | succ k1 =>
   have H := HA.out
   clear HA
   simp only [ir_Clone.l0] at H
   by_cases c14 : x15_1 < (l0_0.length : Int)
   ·rw [if_pos c14] at H
    have c14b0 := decide_eq_true c14
    clear c14
    by_cases c15 : 0 ≤ x15_1
    ·rw [if_pos c15] at H
     have c15b0 := decide_eq_true c15
     clear c15
     by_cases c16 : x15_1 < (l0_0.length : Int)
     ·rw [if_pos c16] at H
      have c16b0 := decide_eq_true c16
      clear c16
      replace H := Option.bind_eq_some_iff.mp H
      obtain ⟨t420, A170, H⟩ := H
      (try dsimp only at H)
      have A17 := Aside0.mk A170
      clear A170
      by_cases c18 : x418000_1.length < 3518437208883
      ·rw [if_pos c18] at H
       have LMc18 := Aside0.mk c18
       clear c18
       obtain ⟨y423, hy423⟩ : ∃ y_ : List (S58), y_ = (x418000_1 ++ [(⟨(rd_T58 l0_0 x15_1).f0, t420⟩ : S58)]) := ⟨_, rfl⟩
       replace H : (ir_Clone.l0 k1 l0_0 (l0_0.length : Int) (wrap64 (x15_1 + 1)) l0_0 l0_1 l0_2 y423 t414) = some (r1, r2, r3) := by first | (rw [hy423]; with_reducible exact H) | (have H2_ := (Option.bind_some _ _).symm.trans H; rw [hy423]; with_reducible exact H2_) | (have H2_ := (Option.bind_some _ _).symm.trans H; with_reducible exact H2_) | with_reducible exact H | (rw [hy423]; exact H) | exact H
       have Ny423 := Aside0.mk hy423
       clear hy423
       have H' := Aside0.mk H
       clear H
       have p418 : 0 ≤ (x15_1 : Int) := of_decide_eq_true (bq77)
       have q418 : x15_1 < (l0_0.length : Int) := of_decide_eq_true (bq77)
       obtain ⟨ad418, A418_1, c418_1, e418, hx418_0, hx418_1, hl418_1, hi418_1⟩ := at_T58 HR0_0.out x15_1 p418 q418
       cases e418
       replace hx418_0 := (HB.out.cell (World.block_lt_of_cell? w _ hx418_0)).trans hx418_0
       replace hx418_1 := (HB.out.cell (World.block_lt_of_cell? w _ hx418_1)).trans hx418_1
       have HR418_1 := Aside0.mk hi418_1
       have HC418_1 := Aside0.mk hl418_1
       clear hi418_1 hl418_1
       replace p418 := eq_true p418
       replace q418 := eq_true q418
       try go_wp2_with (first | ((with_reducible refine gate_dst (N := 5) rfl ?_); refine box_event ?hg (N := 5) ?hd (cs := #[.string (⟨#[]⟩ : ByteArray), .slice none 0 0]) (t := 58) ?hr ?_; (case hd => rfl); (case hg => rfl); (case hr => first | (go_simp; done) | (go_simp; rfl)); intro gb419 hg w19 hbox hb; have n0_ := Aside0.mk (Kd.S_below (Kd.S_elderB (bq60) gb419 (Nat.le_of_eq hg.symm)) hb); have n1_ := Aside0.mk (Kd.R_below (bq61) hb); have n2_ := Aside0.mk (blkB BK412.out hb); have n3_ := Aside0.mk (blkB BK413.out hb); have n4_ := Aside0.mk (blkB BK417.out hb); have n5_ := Aside0.mk (below_step (bq13) hb); have n6_ := Aside0.mk (hbox); have n7_ := Aside0.mk ((bq3 : w.heap.size ≤ gb419)); have n8_ := Aside0.mk ((bq3 : w.heap.size ≤ gb419)); have n9_ := Aside0.mk ((bq93 : gb412 ≠ gb419)); have n10_ := Aside0.mk ((bq94 : gb419 ≠ gb412)); have n11_ := Aside0.mk ((bq95 : gb413 ≠ gb419)); have n12_ := Aside0.mk ((bq96 : gb419 ≠ gb413)); have n13_ := Aside0.mk ((by rw [hg]; exact Nat.ne_of_lt (blkL BK417.out) : gb417 ≠ gb419)); have n14_ := Aside0.mk ((by rw [hg]; exact Nat.ne_of_gt (blkL BK417.out) : gb419 ≠ gb417)); clear HO_418000 HO_418001 BK412 BK413 BK417 HB; have HO_418000 := n0_; have HO_418001 := n1_; have BK412 := n2_; have BK413 := n3_; have BK417 := n4_; have HB := n5_; have BK419 := n6_; have GW419 := n7_; have GE419 := n8_; have NB412_419 := n9_; have NB419_412 := n10_; have NB413_419 := n11_; have NB419_413 := n12_; have NB417_419 := n13_; have NB419_417 := n14_; clear n0_ n1_ n2_ n3_ n4_ n5_ n6_ n7_ n8_ n9_ n10_ n11_ n12_ n13_ n14_ hb hbox hg; have hnb20 := NB419_412.out; have hnc20 := NB412_419.out; have hnb21 := NB419_413.out; have hnc21 := NB413_419.out; have hnb22 := NB419_417.out; have hnc22 := NB417_419.out; obtain ⟨hcz23_0, hcz23_1, hfz23_0, hfz23_1⟩ := bk2 BK419.out))
       have n0_ : Aside0 (Kd.S k58 58 ((w19.setCell ⟨gb419, 0, none⟩ (.string ((rd_T58 l0_0 x15_1).f0))).setCell ⟨gb419, 1, none⟩ (.slice A418_1 ((rd_T58 l0_0 x15_1).f1).length c418_1)) w.heap.size (fun k_ => some k_ ≠ (.slice Ao8 t414.length co8 : Value).ownBlock ∧ k_ ≠ gb419) u418000 x418000_1) := ⟨by (with_reducible repeat (first | apply Kd.S_alloc | apply Kd.S_drewN | apply Kd.S_drew)); exact Kd.S_mono (Kd.S_far (p := ⟨gb419, 1, none⟩) (Kd.S_far (p := ⟨gb419, 0, none⟩) (Kd.S_mono HO_418000.out (fun k_ hk => (⟨hk, hk.2⟩ : _ ∧ k_ ≠ gb419))) (fun _ hk => hk.2) (.string ((rd_T58 l0_0 x15_1).f0))) (fun _ hk => hk.2) (.slice A418_1 ((rd_T58 l0_0 x15_1).f1).length c418_1)) (fun _ hk => ⟨hk.1.1, hk.1.2⟩)⟩
       have n1_ : Aside0 (Kd.R k61 61 ((w19.setCell ⟨gb419, 0, none⟩ (.string ((rd_T58 l0_0 x15_1).f0))).setCell ⟨gb419, 1, none⟩ (.slice A418_1 ((rd_T58 l0_0 x15_1).f1).length c418_1)) w.heap.size (fun _ => True) (.slice Ao8 t414.length co8) t414) := ⟨by (with_reducible repeat (first | apply Kd.R_alloc | apply Kd.R_drewN | apply Kd.R_drew)); exact Kd.R_mono (Kd.R_far (p := ⟨gb419, 1, none⟩) (Kd.R_far (p := ⟨gb419, 0, none⟩) (Kd.R_types HO_418001.out BK419.out (by decide)) (fun _ hk => hk.2) (.string ((rd_T58 l0_0 x15_1).f0))) (fun _ hk => hk.2) (.slice A418_1 ((rd_T58 l0_0 x15_1).f1).length c418_1)) (fun _ hk => trivial)⟩
       have n2_ : Aside0 (((w19.setCell ⟨gb419, 0, none⟩ (.string ((rd_T58 l0_0 x15_1).f0))).setCell ⟨gb419, 1, none⟩ (.slice A418_1 ((rd_T58 l0_0 x15_1).f1).length c418_1)).heap[gb412]? = some (.cells #[.slice (some ad418) l0_0.length c0_0, .slice A0_1 l0_1.length c0_1, .slice A0_2 l0_2.length c0_2] 26 (0, 0))) := ⟨by (with_reducible repeat (first | refine blk_drewN ?_ _ | refine blk_drew ?_ | refine blk_alloc ?_ _)); refine blk_far ?_ NB412_419.out _; (with_reducible repeat (first | refine blk_drewN ?_ _ | refine blk_drew ?_ | refine blk_alloc ?_ _)); refine blk_far ?_ NB412_419.out _; (with_reducible repeat (first | refine blk_drewN ?_ _ | refine blk_drew ?_ | refine blk_alloc ?_ _)); exact BK412.out⟩
       have n3_ : Aside0 (((w19.setCell ⟨gb419, 0, none⟩ (.string ((rd_T58 l0_0 x15_1).f0))).setCell ⟨gb419, 1, none⟩ (.slice A418_1 ((rd_T58 l0_0 x15_1).f1).length c418_1)).heap[gb413]? = some (.cells #[.slice none 0 0, .slice none 0 0, .slice none 0 0] 26 (0, 0))) := ⟨by (with_reducible repeat (first | refine blk_drewN ?_ _ | refine blk_drew ?_ | refine blk_alloc ?_ _)); refine blk_far ?_ NB413_419.out _; (with_reducible repeat (first | refine blk_drewN ?_ _ | refine blk_drew ?_ | refine blk_alloc ?_ _)); refine blk_far ?_ NB413_419.out _; (with_reducible repeat (first | refine blk_drewN ?_ _ | refine blk_drew ?_ | refine blk_alloc ?_ _)); exact BK413.out⟩
       have n4_ : Aside0 (((w19.setCell ⟨gb419, 0, none⟩ (.string ((rd_T58 l0_0 x15_1).f0))).setCell ⟨gb419, 1, none⟩ (.slice A418_1 ((rd_T58 l0_0 x15_1).f1).length c418_1)).heap[gb417]? = some (.cells #[u418000, .slice Ao8 t414.length co8, .slice none 0 0] 26 (0, 0))) := ⟨by (with_reducible repeat (first | refine blk_drewN ?_ _ | refine blk_drew ?_ | refine blk_alloc ?_ _)); refine blk_far ?_ NB417_419.out _; (with_reducible repeat (first | refine blk_drewN ?_ _ | refine blk_drew ?_ | refine blk_alloc ?_ _)); refine blk_far ?_ NB417_419.out _; (with_reducible repeat (first | refine blk_drewN ?_ _ | refine blk_drew ?_ | refine blk_alloc ?_ _)); exact BK417.out⟩
       have n5_ : Aside0 (((w19.setCell ⟨gb419, 0, none⟩ (.string ((rd_T58 l0_0 x15_1).f0))).setCell ⟨gb419, 1, none⟩ (.slice A418_1 ((rd_T58 l0_0 x15_1).f1).length c418_1)).heap[gb419]? = some (.cells #[.string ((rd_T58 l0_0 x15_1).f0), .slice A418_1 ((rd_T58 l0_0 x15_1).f1).length c418_1] 58 (0, 0))) := ⟨by (with_reducible repeat (first | refine blk_drewN ?_ _ | refine blk_drew ?_ | refine blk_alloc ?_ _)); refine blk_put (cs := #[.string ((rd_T58 l0_0 x15_1).f0), .slice none 0 0]) ?_ 1 _ rfl; (with_reducible repeat (first | refine blk_drewN ?_ _ | refine blk_drew ?_ | refine blk_alloc ?_ _)); refine blk_put (cs := #[.string (⟨#[]⟩ : ByteArray), .slice none 0 0]) ?_ 0 _ rfl; (with_reducible repeat (first | refine blk_drewN ?_ _ | refine blk_drew ?_ | refine blk_alloc ?_ _)); exact BK419.out⟩
       have n6_ : Aside0 (Below w.heap.size w ((w19.setCell ⟨gb419, 0, none⟩ (.string ((rd_T58 l0_0 x15_1).f0))).setCell ⟨gb419, 1, none⟩ (.slice A418_1 ((rd_T58 l0_0 x15_1).f1).length c418_1))) := ⟨bq6⟩
       clear HO_418000 HO_418001 BK412 BK413 BK417 BK419 HB
       generalize ((w19.setCell ⟨gb419, 0, none⟩ (.string ((rd_T58 l0_0 x15_1).f0))).setCell ⟨gb419, 1, none⟩ (.slice A418_1 ((rd_T58 l0_0 x15_1).f1).length c418_1)) = w24 at n0_ n1_ n2_ n3_ n4_ n5_ n6_ ⊢
       have HO_418000 := n0_
       have HO_418001 := n1_
       have BK412 := n2_
       have BK413 := n3_
       have BK417 := n4_
       have BK419 := n5_
       have HB := n6_
       clear n0_ n1_ n2_ n3_ n4_ n5_ n6_
       have n0_ := Aside0.mk (Kd.S_drew HO_418000.out)
       have n1_ := Aside0.mk (Kd.R_drew HO_418001.out)
       have n2_ := Aside0.mk (blk_drew BK412.out)
       have n3_ := Aside0.mk (blk_drew BK413.out)
       have n4_ := Aside0.mk (blk_drew BK417.out)
       have n5_ := Aside0.mk (blk_drew BK419.out)
       have n6_ := Aside0.mk (below_drew1 HB.out)
       clear HO_418000 HO_418001 BK412 BK413 BK417 BK419 HB
       have HO_418000 := n0_
       have HO_418001 := n1_
       have BK412 := n2_
       have BK413 := n3_
       have BK417 := n4_
       have BK419 := n5_
       have HB := n6_
       clear n0_ n1_ n2_ n3_ n4_ n5_ n6_
       refine start_ (n := 12) (S := fun w' => w'.cell? ⟨gb417, 0, none⟩ = some (u418000) ∧ w'.cell? ⟨gb417, 1, none⟩ = some (.slice Ao8 t414.length co8) ∧ w'.cell? ⟨gb417, 2, none⟩ = some (.slice none 0 0) ∧ w'.cell? ⟨gb419, 0, none⟩ = some (.string ((rd_T58 l0_0 x15_1).f0)) ∧ w'.cell? ⟨gb419, 1, none⟩ = some (.slice A418_1 ((rd_T58 l0_0 x15_1).f1).length c418_1)) (ds := [11]) (tf 0 12) (by kernel_rfl) rfl rfl ⟨(blk_cell BK417.out 0).trans rfl, (blk_cell BK417.out 1).trans rfl, (blk_cell BK417.out 2).trans rfl, (blk_cell BK419.out 0).trans rfl, (blk_cell BK419.out 1).trans rfl⟩ (fun hHeld => ?_); refine with_tabW ir_Clone.tab5 ir_Clone.bits5 (fun HT_ HW_ => ?_)
       generalize w24.drew = w25 at HO_418000 HO_418001 BK412 BK413 BK417 BK419 HB hHeld ⊢
       refine pure_ (i := 0) (N := some 19) (v := ?_) (a' := ?_) (tf 1 11) rfl rfl (any_of HT_.out (by kernel_rfl)) (fun _ _ _ h => h) (Or.inl ⟨by rfl, ?_⟩) ?_ ?_
       rotate_left
       ·intro w'
        go_simp
        with_reducible rfl
       rotate_left
       ·simp only [Act.put, List.setIfInBounds_toArray, List.set_cons_zero, List.set_cons_succ, i64_w, i32_w]
        rfl
       refine pure_ (i := 2) (N := some 21) (v := ?_) (a' := ?_) #[true, false, true, false, false, false, false, false, false, false, false, false] rfl rfl (any_of HT_.out (by kernel_rfl)) (fun _ _ _ h => h) (Or.inl ⟨by rfl, ?_⟩) ?_ ?_
       rotate_left
       ·intro w'
        go_simp
        with_reducible rfl
       rotate_left
       ·simp only [Act.put, List.setIfInBounds_toArray, List.set_cons_zero, List.set_cons_succ, i64_w, i32_w]
        rfl
       refine pure_ (i := 4) (N := some 23) (v := ?_) (a' := ?_) #[true, false, true, false, true, false, false, false, false, false, false, false] rfl rfl (any_of HT_.out (by kernel_rfl)) (fun _ _ _ h => h) (Or.inl ⟨by rfl, ?_⟩) ?_ ?_
       rotate_left
       ·intro w'
        go_simp
        with_reducible rfl
       rotate_left
       ·simp only [Act.put, List.setIfInBounds_toArray, List.set_cons_zero, List.set_cons_succ, i64_w, i32_w]
        rfl
       refine take_ (i := 1) (N := some 20) (v := ?_) (a' := ?_) #[true, true, true, false, true, false, false, false, false, false, false, false] rfl rfl (take_ofW HT_.out HW_.out (by kernel_rfl)) (fun _ _ _ h => h) (Or.inl ⟨by rfl, ?_⟩) hHeld ?_ ?_
       rotate_left
       ·rintro w' ⟨s0, s1, s2, s3, s4⟩
        go_simp
        with_reducible rfl
       rotate_left
       ·simp only [Act.put, List.setIfInBounds_toArray, List.set_cons_zero, List.set_cons_succ, i64_w, i32_w]
        rfl
       refine take_ (i := 3) (N := some 22) (v := ?_) (a' := ?_) (tf 5 7) rfl rfl (take_ofW HT_.out HW_.out (by kernel_rfl)) (fun _ _ _ h => h) (Or.inl ⟨by rfl, ?_⟩) hHeld ?_ ?_
       rotate_left
       ·rintro w' ⟨s0, s1, s2, s3, s4⟩
        go_simp
        with_reducible rfl
       rotate_left
       ·simp only [Act.put, List.setIfInBounds_toArray, List.set_cons_zero, List.set_cons_succ, i64_w, i32_w]
        rfl
       refine take_ (i := 5) (N := some 24) (v := ?_) (a' := ?_) (tf 6 6) rfl rfl (take_ofW HT_.out HW_.out (by kernel_rfl)) (fun _ _ _ h => h) (Or.inl ⟨by rfl, ?_⟩) hHeld ?_ ?_
       rotate_left
       ·rintro w' ⟨s0, s1, s2, s3, s4⟩
        go_simp
        with_reducible rfl
       rotate_left
       ·simp only [Act.put, List.setIfInBounds_toArray, List.set_cons_zero, List.set_cons_succ, i64_w, i32_w]
        rfl
       refine one_ (i := 6) (N := some 25) (tf 7 5) rfl rfl (one_of HT_.out (by kernel_rfl)) (by decide) (fun K hK => ?_)
       refine goes_ Tryd.func43 (by kernel_rfl) rfl #[.slice A418_1 ((rd_T58 l0_0 x15_1).f1).length c418_1] (by rfl) rfl rfl (bq48) ?_
       with_reducible refine (api_Field_43.calls _ _ ((rd_T58 l0_0 x15_1).f1) t420 _ ?side1 ?side2 A17.out).mono ?_
       (case side1 => repeat (first | exact (Kd.C_below HR418_1.out HB.out) | (with_reducible refine Kd.C_alloc ?_ _) | (with_reducible refine Kd.C_drewN ?_ _) | (with_reducible refine Kd.C_drew ?_)))
       (case side2 => exact HC418_1.out)
       rintro e w26 ⟨v421, rfl, ho0, hb⟩
       refine ⟨_, rfl, ?_⟩
       have n0_ := Aside0.mk (Kd.S_elder' (bq60) (Kd.R_base ho0) hb)
       have n1_ := Aside0.mk (Kd.R_elder' (bq61) (Kd.R_base ho0) hb)
       have n2_ := Aside0.mk (Kd.R_lower (Kd.R_new' ho0 (Kd.R_lt (bq61))) (below_size (bq6)))
       have n3_ := Aside0.mk (blkB BK412.out hb)
       have n4_ := Aside0.mk (blkB BK413.out hb)
       have n5_ := Aside0.mk (blkB BK417.out hb)
       have n6_ := Aside0.mk (blkB BK419.out hb)
       have n7_ := Aside0.mk (below_step (bq6) hb)
       clear HO_418000 HO_418001 BK412 BK413 BK417 BK419 HB
       have HO_418000 := n0_
       have HO_418001 := n1_
       have HO422 := n2_
       have BK412 := n3_
       have BK413 := n4_
       have BK417 := n5_
       have BK419 := n6_
       have HB := n7_
       clear n0_ n1_ n2_ n3_ n4_ n5_ n6_ n7_ hb ho0
       obtain ⟨Ao27, co27, eo27⟩ := Kd.R_slice HO422.out
       (first | subst eo27 | (injection eo27 with f1_ f2_ f3_; have f4_ := f1_.symm; have f5_ := f3_.symm; clear f1_ f2_ f3_; subst f4_; subst f5_))
       refine hK.out _ _ ⟨(blk_cell BK417.out 0).trans rfl, (blk_cell BK417.out 1).trans rfl, (blk_cell BK417.out 2).trans rfl, (blk_cell BK419.out 0).trans rfl, (blk_cell BK419.out 1).trans rfl⟩ (fun hHeld => ?_)
       clear hK K
       refine norm_ (a' := ?_) ?_ ?_
       rotate_left
       ·show Act.put _ (some 25) _ = _
        simp only [Act.put, List.setIfInBounds_toArray, List.set_cons_zero, List.set_cons_succ, i64_w, i32_w]
        rfl
       refine pure_ (i := 7) (N := some 26) (v := ?_) (a' := ?_) (tf 8 4) rfl rfl (any_of HT_.out (by kernel_rfl)) (fun _ _ _ h => h) (Or.inl ⟨by rfl, ?_⟩) ?_ ?_
       rotate_left
       ·intro w'
        go_simp
        with_reducible rfl
       rotate_left
       ·simp only [Act.put, List.setIfInBounds_toArray, List.set_cons_zero, List.set_cons_succ, i64_w, i32_w]
        rfl
       refine one_ (i := 8) (N := some 27) (tf 9 3) rfl rfl (one_of HT_.out (by kernel_rfl)) (by decide) (fun K hK => ?_)
       refine value_ (w1 := ?_) (v := ?_) (by rfl) rfl ?_ ?_
       rotate_left 2
       ·go_simp
        constructor
        ·rfl
        ·rfl
       refine hK.out _ _ ⟨(blk_cell (blk_alloc BK417.out _) 0).trans rfl, (blk_cell (blk_alloc BK417.out _) 1).trans rfl, (blk_cell (blk_alloc BK417.out _) 2).trans rfl, (blk_cell (blk_alloc BK419.out _) 0).trans rfl, (blk_cell (blk_alloc BK419.out _) 1).trans rfl⟩ (fun hHeld => ?_)
       clear hK K
       refine norm_ (a' := ?_) ?_ ?_
       rotate_left
       ·show Act.put _ (some 27) _ = _
        simp only [Act.put, List.setIfInBounds_toArray, List.set_cons_zero, List.set_cons_succ, i64_w, i32_w]
        rfl
       refine one_ (i := 9) (N := some 28) (tf 10 2) rfl rfl (one_of HT_.out (by kernel_rfl)) (by decide) (fun K hK => ?_)
       refine Kd.S_append_step k58 (w0 := w) w.heap.size (by rfl) (.tmp 20) (.tmp 27) 22 58 (.agg #[(.string ⟨#[]⟩), (.slice none 0 0)]) 40 rfl Tryd.underlying22 info58 rfl (by decide) (by omega) u418000 x418000_1 (⟨(rd_T58 l0_0 x15_1).f0, t420⟩ : S58) [.string ((rd_T58 l0_0 x15_1).f0), .slice Ao27 t420.length co27] (fun k_ => some k_ ≠ (.slice Ao8 t414.length co8 : Value).ownBlock ∧ k_ ≠ gb419) (fun k_ => some k_ = (.slice Ao27 t420.length co27 : Value).ownBlock) rfl rfl ?aP (fun k_ hk_ => ((Kd.R_mono (ok' := fun k_ => ((fun k_ => some k_ ≠ (.slice Ao8 t414.length co8 : Value).ownBlock ∧ k_ ≠ gb419)) k_ ∧ some k_ ≠ (u418000 : Value).ownBlock) (Kd.R_types (Kd.R_apart' (HO422.out) (Kd.S_typed HO_418000.out) (by decide)) BK419.out (by decide)) (fun k_ hk => ⟨⟨hk.1.1.2, hk.2⟩, hk.1.2⟩))).1 k_ hk_.symm) ?aF ?aO ?aB ?aS ?aL ?_
       (case aP => exact k58_mkM _ _ _ (⟨(rd_T58 l0_0 x15_1).f0, t420⟩ : S58) (Kd.R_mono (Kd.R_tight rfl (Kd.R_mono (ok' := fun k_ => ((fun k_ => some k_ ≠ (.slice Ao8 t414.length co8 : Value).ownBlock ∧ k_ ≠ gb419)) k_ ∧ some k_ ≠ (u418000 : Value).ownBlock) (Kd.R_types (Kd.R_apart' (HO422.out) (Kd.S_typed HO_418000.out) (by decide)) BK419.out (by decide)) (fun k_ hk => ⟨⟨hk.1.1.2, hk.2⟩, hk.1.2⟩))) (fun _ h_ => h_)))
       (case aB => exact (bq6))
       (case aF => exact (fun k_ hk => ⟨Kd.fresh' (Kd.R_lt (bq61)) k_ hk, Kd.freshB (g := gb419) (o := .cells #[.string ((rd_T58 l0_0 x15_1).f0), .slice A418_1 ((rd_T58 l0_0 x15_1).f1).length c418_1] 58 (0, 0)) (by (with_reducible repeat (first | refine blk_drewN ?_ _ | refine blk_drew ?_ | refine blk_alloc ?_ _)); exact BK419.out) k_ hk⟩))
       (case aO => exact (by (with_reducible repeat (first | apply Kd.S_alloc | apply Kd.S_drewN | apply Kd.S_drew)); exact Kd.S_mono HO_418000.out (fun k_ hk => ⟨⟨hk.1.1, hk.1.2⟩, fun e_ => hk.2 e_⟩)))
       (case aS => exact (below_size (bq6)))
       (case aL => have := LMc18.out; omega)
       intro v424 w28 ho hb hg hat
       rw [← Ny423.out] at ho
       have n0_ := Aside0.mk (Kd.R_over' (bq61) (Kd.S_typed (bq60)) (by decide) hg)
       have n1_ := Aside0.mk (blkG BK412.out hg (Kd.S_ne HO_418000.out BK412.out (by decide)))
       have n2_ := Aside0.mk (blkG BK413.out hg (Kd.S_ne HO_418000.out BK413.out (by decide)))
       have n3_ := Aside0.mk (blkG BK417.out hg (Kd.S_ne HO_418000.out BK417.out (by decide)))
       have n4_ := Aside0.mk (blkG BK419.out hg (Kd.S_away HO_418000.out (fun _ hk => hk.1.2)))
       have n5_ := Aside0.mk (hb)
       have n6_ := Aside0.mk (ho)
       clear HO_418001 BK412 BK413 BK417 BK419 HB HO_418000 HO422
       have HO_418001 := n0_
       have BK412 := n1_
       have BK413 := n2_
       have BK417 := n3_
       have BK419 := n4_
       have HB := n5_
       have HO425 := n6_
       clear n0_ n1_ n2_ n3_ n4_ n5_ n6_ ho hb hg hat
       obtain ⟨Ao29, co29, eo29⟩ := Kd.S_slice HO425.out
       (first | subst eo29 | (injection eo29 with f1_ f2_ f3_; have f4_ := f1_.symm; have f5_ := f3_.symm; clear f1_ f2_ f3_; subst f4_; subst f5_))
       refine hK.out _ _ ⟨(blk_cell BK417.out 0).trans rfl, (blk_cell BK417.out 1).trans rfl, (blk_cell BK417.out 2).trans rfl, (blk_cell BK419.out 0).trans rfl, (blk_cell BK419.out 1).trans rfl⟩ (fun hHeld => ?_)
       clear hK K
       refine norm_ (a' := ?_) ?_ ?_
       rotate_left
       ·show Act.put _ (some 28) _ = _
        simp only [Act.put, List.setIfInBounds_toArray, List.set_cons_zero, List.set_cons_succ, i64_w, i32_w]
        rfl
       refine pure_ (i := 10) (N := some 29) (v := ?_) (a' := ?_) (tf 11 1) rfl rfl (any_of HT_.out (by kernel_rfl)) (fun _ _ _ h => h) (Or.inl ⟨by rfl, ?_⟩) ?_ ?_
       rotate_left
       ·intro w'
        go_simp
        with_reducible rfl
       rotate_left
       ·simp only [Act.put, List.setIfInBounds_toArray, List.set_cons_zero, List.set_cons_succ, i64_w, i32_w]
        rfl
       refine last_ (i := 11) (N := none) (tf 12 0) rfl rfl (one_of HT_.out (by kernel_rfl)) (by decide) (fun K hK => ?_)
       have hs30 : w28.cell? ⟨gb417, 0, none⟩ = some (u418000) := (blk_cell BK417.out 0).trans rfl
       have hfs30 := blk_frozen BK417.out 0
       have hns30_0 := NB412_417.out
       have hns30_1 := NB413_417.out
       have hns30_3 := NB419_417.out
       have hms30_0 := NB417_412.out
       have hms30_1 := NB417_413.out
       have hms30_3 := NB417_419.out
       refine skip_ (w1 := ?_) (by rfl) rfl ?_ ?_
       rotate_left
       ·go_simp
        rfl
       refine hK.out _ _ ?_
       clear hK K
       refine done_ (done_of HT_.out (by kernel_rfl)) ?_
       try go_wp2
       go_roundg k1
       case measure => have := HK1.out; omega
       case rel => exact ⟨(wrap64 (x15_1 + 1)), (y423), (.slice Ao29 y423.length co29), (bq78), H', ⟨by have := HK1.out; omega⟩, ⟨by (with_reducible repeat (first | apply Kd.S_alloc | apply Kd.S_drewN | apply Kd.S_drew)); exact Kd.S_mono (Kd.S_far (p := ⟨gb417, 0, none⟩) (Kd.S_types HO425.out BK417.out (by decide)) (fun _ hk => hk.2) (.slice Ao29 y423.length co29)) (fun _ hk => hk.1.1)⟩, ⟨by (with_reducible repeat (first | apply Kd.R_alloc | apply Kd.R_drewN | apply Kd.R_drew)); exact Kd.R_mono (Kd.R_far (p := ⟨gb417, 0, none⟩) (Kd.R_types HO_418001.out BK417.out (by decide)) (fun _ hk => hk.2) (.slice Ao29 y423.length co29)) (fun _ hk => trivial)⟩, ⟨by (with_reducible repeat (first | refine blk_drewN ?_ _ | refine blk_drew ?_ | refine blk_alloc ?_ _)); refine blk_far ?_ NB412_417.out _; (with_reducible repeat (first | refine blk_drewN ?_ _ | refine blk_drew ?_ | refine blk_alloc ?_ _)); exact BK412.out⟩, ⟨by (with_reducible repeat (first | refine blk_drewN ?_ _ | refine blk_drew ?_ | refine blk_alloc ?_ _)); refine blk_far ?_ NB413_417.out _; (with_reducible repeat (first | refine blk_drewN ?_ _ | refine blk_drew ?_ | refine blk_alloc ?_ _)); exact BK413.out⟩, ⟨by (with_reducible repeat (first | refine blk_drewN ?_ _ | refine blk_drew ?_ | refine blk_alloc ?_ _)); refine blk_put (cs := #[u418000, .slice Ao8 t414.length co8, .slice none 0 0]) ?_ 0 _ rfl; (with_reducible repeat (first | refine blk_drewN ?_ _ | refine blk_drew ?_ | refine blk_alloc ?_ _)); exact BK417.out⟩, ⟨bq6⟩⟩
      ·rw [if_neg c18] at H
       exact absurd H (by simp)
     ·rw [if_neg c16] at H
      exact absurd H (by simp)
    ·rw [if_neg c15] at H
     exact absurd H (by simp)
   ·rw [if_neg c14] at H
    have c14b0 := decide_eq_false c14
    clear c14
    have H' := Aside0.mk H
    clear H
    have hnb31 := NB412_413.out
    have hnc31 := NB413_412.out
    have hnb32 := NB412_417.out
    have hnc32 := NB417_412.out
    obtain ⟨hcz33_0, hcz33_1, hcz33_2, hfz33_0, hfz33_1, hfz33_2⟩ := bk3 BK412.out
    go_wp2
    go_loopg [34] k1 (fun kq v34 w' => ∃ (x34_2 : Int) (x418002_2 : List (S40)) (u418002 : Value), v34 = .int .i64 x34_2 ∧ Aside0 (ir_Clone.l1 kq l0_2 (l0_2.length : Int) x34_2 x418000_1 t414 x418002_2 = some (r1, r2, r3)) ∧ Aside0 (kq ≤ k1) ∧ Aside0 (Kd.S k58 58 w' w.heap.size (fun k_ => some k_ ≠ ((.slice Ao8 t414.length co8) : Value).ownBlock) u418000 x418000_1) ∧ Aside0 (Kd.R k61 61 w' w.heap.size (fun _ => True) (.slice Ao8 t414.length co8) t414) ∧ Aside0 (Kd.R k40 40 w' w.heap.size (fun _ => True) u418002 x418002_2) ∧ Aside0 (w'.heap[gb412]? = some (.cells #[(.slice A0_0 l0_0.length c0_0), (.slice A0_1 l0_1.length c0_1), (.slice A0_2 l0_2.length c0_2)] 26 (0, 0))) ∧ Aside0 (w'.heap[gb413]? = some (.cells #[(.slice none 0 0), (.slice none 0 0), (.slice none 0 0)] 26 (0, 0))) ∧ Aside0 (w'.heap[gb417]? = some (.cells #[u418000, (.slice Ao8 t414.length co8), u418002] 26 (0, 0))) ∧ Aside0 (Below w.heap.size w w'))
    case atStart => exact ⟨(0), (([] : List (S40))), (.slice none 0 0), (bq78), H', ⟨Nat.le_refl _⟩, ⟨bq60⟩, ⟨bq61⟩, ⟨by first | exact Kd.R_nil _ _ _ _ _ | exact Kd.N_nil _ _ _ _ _ | exact Kd.V_nil _ _ _ _ _ | exact Kd.Q_nil _ _ _ _ _ | exact Kd.S_nil _ _ _ _ _⟩, ⟨by (with_reducible repeat (first | refine blk_drewN ?_ _ | refine blk_drew ?_ | refine blk_alloc ?_ _)); exact BK412.out⟩, ⟨by (with_reducible repeat (first | refine blk_drewN ?_ _ | refine blk_drew ?_ | refine blk_alloc ?_ _)); exact BK413.out⟩, ⟨by (with_reducible repeat (first | refine blk_drewN ?_ _ | refine blk_drew ?_ | refine blk_alloc ?_ _)); exact BK417.out⟩, ⟨bq13⟩⟩
    case round =>
     clear H' c14b0 hcz33_0 hcz33_1 hcz33_2 hfz33_0 hfz33_1 hfz33_2
     obtain ⟨x34_2, x418002_2, u418002, rfl, HA, HK2, HO_418000, HO_418001, HO_418002, BK412, BK413, BK417, HB⟩ := hrel
     cases gk with
     | zero => exact absurd HA.out (by simp [ir_Clone.l1])
     | succ k2 =>
      have H := HA.out
      clear HA
      simp only [ir_Clone.l1] at H
      by_cases c34 : x34_2 < (l0_2.length : Int)
      ·rw [if_pos c34] at H
       have c34b0 := decide_eq_true c34
       clear c34
       by_cases c35 : 0 ≤ x34_2
       ·rw [if_pos c35] at H
        have c35b0 := decide_eq_true c35
        clear c35
        by_cases c36 : x34_2 < (l0_2.length : Int)
        ·rw [if_pos c36] at H
         have c36b0 := decide_eq_true c36
         clear c36
         replace H := Option.bind_eq_some_iff.mp H
         obtain ⟨⟨t428, t429, t432, t433, t436, t439⟩, A370, H⟩ := H
         (try dsimp only at H)
         have A37 := Aside0.mk A370
         clear A370
         by_cases c38 : x418002_2.length < 1099511627776
         ·rw [if_pos c38] at H
          have LMc38 := Aside0.mk c38
          clear c38
          obtain ⟨y442, hy442⟩ : ∃ y_ : List (S40), y_ = (x418002_2 ++ [(⟨t428, t429, t432, t433, t436, t439⟩ : S40)]) := ⟨_, rfl⟩
          replace H : (ir_Clone.l1 k2 l0_2 (l0_2.length : Int) (wrap64 (x34_2 + 1)) x418000_1 t414 y442) = some (r1, r2, r3) := by first | (rw [hy442]; with_reducible exact H) | (have H2_ := (Option.bind_some _ _).symm.trans H; rw [hy442]; with_reducible exact H2_) | (have H2_ := (Option.bind_some _ _).symm.trans H; with_reducible exact H2_) | with_reducible exact H | (rw [hy442]; exact H) | exact H
          have Ny442 := Aside0.mk hy442
          clear hy442
          have H' := Aside0.mk H
          clear H
          have p426 : 0 ≤ (x34_2 : Int) := of_decide_eq_true (bq77)
          have q426 : x34_2 < (l0_2.length : Int) := of_decide_eq_true (bq77)
          obtain ⟨ad426, A426_1, c426_1, A426_3, c426_3, A426_4, c426_4, A426_5, c426_5, e426, hx426_0, hx426_1, hx426_2, hx426_3, hx426_4, hx426_5, hl426_1, hi426_1, hl426_3, hi426_3, hl426_4, hi426_4, hl426_5, hi426_5⟩ := at_T40 HR0_2.out x34_2 p426 q426
          cases e426
          replace hx426_0 := (HB.out.cell (World.block_lt_of_cell? w _ hx426_0)).trans hx426_0
          replace hx426_1 := (HB.out.cell (World.block_lt_of_cell? w _ hx426_1)).trans hx426_1
          replace hx426_2 := (HB.out.cell (World.block_lt_of_cell? w _ hx426_2)).trans hx426_2
          replace hx426_3 := (HB.out.cell (World.block_lt_of_cell? w _ hx426_3)).trans hx426_3
          replace hx426_4 := (HB.out.cell (World.block_lt_of_cell? w _ hx426_4)).trans hx426_4
          replace hx426_5 := (HB.out.cell (World.block_lt_of_cell? w _ hx426_5)).trans hx426_5
          have HR426_1 := Aside0.mk hi426_1
          have HC426_1 := Aside0.mk hl426_1
          clear hi426_1 hl426_1
          have HR426_3 := Aside0.mk hi426_3
          have HC426_3 := Aside0.mk hl426_3
          clear hi426_3 hl426_3
          have HR426_4 := Aside0.mk hi426_4
          have HC426_4 := Aside0.mk hl426_4
          clear hi426_4 hl426_4
          have HR426_5 := Aside0.mk hi426_5
          have HC426_5 := Aside0.mk hl426_5
          clear hi426_5 hl426_5
          replace p426 := eq_true p426
          replace q426 := eq_true q426
          try go_wp2_with (first | ((with_reducible refine gate_dst (N := 7) rfl ?_); refine box_event ?hg (N := 7) ?hd (cs := #[.string (⟨#[]⟩ : ByteArray), .slice none 0 0, .string (⟨#[]⟩ : ByteArray), .slice none 0 0, .slice none 0 0, .slice none 0 0]) (t := 40) ?hr ?_; (case hd => rfl); (case hg => rfl); (case hr => first | (go_simp; done) | (go_simp; rfl)); intro gb427 hg w39 hbox hb; have n0_ := Aside0.mk (Kd.S_below (bq60) hb); have n1_ := Aside0.mk (Kd.R_below (bq61) hb); have n2_ := Aside0.mk (Kd.R_below (Kd.R_elderB (bq62) gb427 (Nat.le_of_eq hg.symm)) hb); have n3_ := Aside0.mk (blkB BK412.out hb); have n4_ := Aside0.mk (blkB BK413.out hb); have n5_ := Aside0.mk (blkB BK417.out hb); have n6_ := Aside0.mk (below_step (bq13) hb); have n7_ := Aside0.mk (hbox); have n8_ := Aside0.mk ((bq3 : w.heap.size ≤ gb427)); have n9_ := Aside0.mk ((bq3 : w.heap.size ≤ gb427)); have n10_ := Aside0.mk ((bq93 : gb412 ≠ gb427)); have n11_ := Aside0.mk ((bq94 : gb427 ≠ gb412)); have n12_ := Aside0.mk ((bq95 : gb413 ≠ gb427)); have n13_ := Aside0.mk ((bq96 : gb427 ≠ gb413)); have n14_ := Aside0.mk ((by rw [hg]; exact Nat.ne_of_lt (blkL BK417.out) : gb417 ≠ gb427)); have n15_ := Aside0.mk ((by rw [hg]; exact Nat.ne_of_gt (blkL BK417.out) : gb427 ≠ gb417)); clear HO_418000 HO_418001 HO_418002 BK412 BK413 BK417 HB; have HO_418000 := n0_; have HO_418001 := n1_; have HO_418002 := n2_; have BK412 := n3_; have BK413 := n4_; have BK417 := n5_; have HB := n6_; have BK427 := n7_; have GW427 := n8_; have GE427 := n9_; have NB412_427 := n10_; have NB427_412 := n11_; have NB413_427 := n12_; have NB427_413 := n13_; have NB417_427 := n14_; have NB427_417 := n15_; clear n0_ n1_ n2_ n3_ n4_ n5_ n6_ n7_ n8_ n9_ n10_ n11_ n12_ n13_ n14_ n15_ hb hbox hg; have hnb40 := NB427_412.out; have hnc40 := NB412_427.out; have hnb41 := NB427_413.out; have hnc41 := NB413_427.out; have hnb42 := NB427_417.out; have hnc42 := NB417_427.out; obtain ⟨hcz43_0, hcz43_1, hcz43_2, hcz43_3, hcz43_4, hcz43_5, hfz43_0, hfz43_1, hfz43_2, hfz43_3, hfz43_4, hfz43_5⟩ := bk6 BK427.out))
          have n0_ : Aside0 (Kd.S k58 58 ((((((w39.setCell ⟨gb427, 0, none⟩ (.string ((rd_T40 l0_2 x34_2).f0))).setCell ⟨gb427, 1, none⟩ (.slice A426_1 ((rd_T40 l0_2 x34_2).f1).length c426_1)).setCell ⟨gb427, 2, none⟩ (.string ((rd_T40 l0_2 x34_2).f2))).setCell ⟨gb427, 3, none⟩ (.slice A426_3 ((rd_T40 l0_2 x34_2).f3).length c426_3)).setCell ⟨gb427, 4, none⟩ (.slice A426_4 ((rd_T40 l0_2 x34_2).f4).length c426_4)).setCell ⟨gb427, 5, none⟩ (.slice A426_5 ((rd_T40 l0_2 x34_2).f5).length c426_5)) w.heap.size (fun k_ => some k_ ≠ (.slice Ao8 t414.length co8 : Value).ownBlock) u418000 x418000_1) := ⟨by (with_reducible repeat (first | apply Kd.S_alloc | apply Kd.S_drewN | apply Kd.S_drew)); exact Kd.S_mono (Kd.S_far (p := ⟨gb427, 5, none⟩) (Kd.S_far (p := ⟨gb427, 4, none⟩) (Kd.S_far (p := ⟨gb427, 3, none⟩) (Kd.S_far (p := ⟨gb427, 2, none⟩) (Kd.S_far (p := ⟨gb427, 1, none⟩) (Kd.S_far (p := ⟨gb427, 0, none⟩) (Kd.S_types HO_418000.out BK427.out (by decide)) (fun _ hk => hk.2) (.string ((rd_T40 l0_2 x34_2).f0))) (fun _ hk => hk.2) (.slice A426_1 ((rd_T40 l0_2 x34_2).f1).length c426_1)) (fun _ hk => hk.2) (.string ((rd_T40 l0_2 x34_2).f2))) (fun _ hk => hk.2) (.slice A426_3 ((rd_T40 l0_2 x34_2).f3).length c426_3)) (fun _ hk => hk.2) (.slice A426_4 ((rd_T40 l0_2 x34_2).f4).length c426_4)) (fun _ hk => hk.2) (.slice A426_5 ((rd_T40 l0_2 x34_2).f5).length c426_5)) (fun _ hk => hk.1)⟩
          have n1_ : Aside0 (Kd.R k61 61 ((((((w39.setCell ⟨gb427, 0, none⟩ (.string ((rd_T40 l0_2 x34_2).f0))).setCell ⟨gb427, 1, none⟩ (.slice A426_1 ((rd_T40 l0_2 x34_2).f1).length c426_1)).setCell ⟨gb427, 2, none⟩ (.string ((rd_T40 l0_2 x34_2).f2))).setCell ⟨gb427, 3, none⟩ (.slice A426_3 ((rd_T40 l0_2 x34_2).f3).length c426_3)).setCell ⟨gb427, 4, none⟩ (.slice A426_4 ((rd_T40 l0_2 x34_2).f4).length c426_4)).setCell ⟨gb427, 5, none⟩ (.slice A426_5 ((rd_T40 l0_2 x34_2).f5).length c426_5)) w.heap.size (fun _ => True) (.slice Ao8 t414.length co8) t414) := ⟨by (with_reducible repeat (first | apply Kd.R_alloc | apply Kd.R_drewN | apply Kd.R_drew)); exact Kd.R_mono (Kd.R_far (p := ⟨gb427, 5, none⟩) (Kd.R_far (p := ⟨gb427, 4, none⟩) (Kd.R_far (p := ⟨gb427, 3, none⟩) (Kd.R_far (p := ⟨gb427, 2, none⟩) (Kd.R_far (p := ⟨gb427, 1, none⟩) (Kd.R_far (p := ⟨gb427, 0, none⟩) (Kd.R_types HO_418001.out BK427.out (by decide)) (fun _ hk => hk.2) (.string ((rd_T40 l0_2 x34_2).f0))) (fun _ hk => hk.2) (.slice A426_1 ((rd_T40 l0_2 x34_2).f1).length c426_1)) (fun _ hk => hk.2) (.string ((rd_T40 l0_2 x34_2).f2))) (fun _ hk => hk.2) (.slice A426_3 ((rd_T40 l0_2 x34_2).f3).length c426_3)) (fun _ hk => hk.2) (.slice A426_4 ((rd_T40 l0_2 x34_2).f4).length c426_4)) (fun _ hk => hk.2) (.slice A426_5 ((rd_T40 l0_2 x34_2).f5).length c426_5)) (fun _ hk => trivial)⟩
          have n2_ : Aside0 (Kd.R k40 40 ((((((w39.setCell ⟨gb427, 0, none⟩ (.string ((rd_T40 l0_2 x34_2).f0))).setCell ⟨gb427, 1, none⟩ (.slice A426_1 ((rd_T40 l0_2 x34_2).f1).length c426_1)).setCell ⟨gb427, 2, none⟩ (.string ((rd_T40 l0_2 x34_2).f2))).setCell ⟨gb427, 3, none⟩ (.slice A426_3 ((rd_T40 l0_2 x34_2).f3).length c426_3)).setCell ⟨gb427, 4, none⟩ (.slice A426_4 ((rd_T40 l0_2 x34_2).f4).length c426_4)).setCell ⟨gb427, 5, none⟩ (.slice A426_5 ((rd_T40 l0_2 x34_2).f5).length c426_5)) w.heap.size (fun k_ => k_ ≠ gb427) u418002 x418002_2) := ⟨by (with_reducible repeat (first | apply Kd.R_alloc | apply Kd.R_drewN | apply Kd.R_drew)); exact Kd.R_mono (Kd.R_far (p := ⟨gb427, 5, none⟩) (Kd.R_far (p := ⟨gb427, 4, none⟩) (Kd.R_far (p := ⟨gb427, 3, none⟩) (Kd.R_far (p := ⟨gb427, 2, none⟩) (Kd.R_far (p := ⟨gb427, 1, none⟩) (Kd.R_far (p := ⟨gb427, 0, none⟩) (Kd.R_mono HO_418002.out (fun k_ hk => (⟨hk, hk.2⟩ : _ ∧ k_ ≠ gb427))) (fun _ hk => hk.2) (.string ((rd_T40 l0_2 x34_2).f0))) (fun _ hk => hk.2) (.slice A426_1 ((rd_T40 l0_2 x34_2).f1).length c426_1)) (fun _ hk => hk.2) (.string ((rd_T40 l0_2 x34_2).f2))) (fun _ hk => hk.2) (.slice A426_3 ((rd_T40 l0_2 x34_2).f3).length c426_3)) (fun _ hk => hk.2) (.slice A426_4 ((rd_T40 l0_2 x34_2).f4).length c426_4)) (fun _ hk => hk.2) (.slice A426_5 ((rd_T40 l0_2 x34_2).f5).length c426_5)) (fun _ hk => hk.1.2)⟩
          have n3_ : Aside0 (((((((w39.setCell ⟨gb427, 0, none⟩ (.string ((rd_T40 l0_2 x34_2).f0))).setCell ⟨gb427, 1, none⟩ (.slice A426_1 ((rd_T40 l0_2 x34_2).f1).length c426_1)).setCell ⟨gb427, 2, none⟩ (.string ((rd_T40 l0_2 x34_2).f2))).setCell ⟨gb427, 3, none⟩ (.slice A426_3 ((rd_T40 l0_2 x34_2).f3).length c426_3)).setCell ⟨gb427, 4, none⟩ (.slice A426_4 ((rd_T40 l0_2 x34_2).f4).length c426_4)).setCell ⟨gb427, 5, none⟩ (.slice A426_5 ((rd_T40 l0_2 x34_2).f5).length c426_5)).heap[gb412]? = some (.cells #[.slice A0_0 l0_0.length c0_0, .slice A0_1 l0_1.length c0_1, .slice (some ad426) l0_2.length c0_2] 26 (0, 0))) := ⟨by (with_reducible repeat (first | refine blk_drewN ?_ _ | refine blk_drew ?_ | refine blk_alloc ?_ _)); refine blk_far ?_ NB412_427.out _; (with_reducible repeat (first | refine blk_drewN ?_ _ | refine blk_drew ?_ | refine blk_alloc ?_ _)); refine blk_far ?_ NB412_427.out _; (with_reducible repeat (first | refine blk_drewN ?_ _ | refine blk_drew ?_ | refine blk_alloc ?_ _)); refine blk_far ?_ NB412_427.out _; (with_reducible repeat (first | refine blk_drewN ?_ _ | refine blk_drew ?_ | refine blk_alloc ?_ _)); refine blk_far ?_ NB412_427.out _; (with_reducible repeat (first | refine blk_drewN ?_ _ | refine blk_drew ?_ | refine blk_alloc ?_ _)); refine blk_far ?_ NB412_427.out _; (with_reducible repeat (first | refine blk_drewN ?_ _ | refine blk_drew ?_ | refine blk_alloc ?_ _)); refine blk_far ?_ NB412_427.out _; (with_reducible repeat (first | refine blk_drewN ?_ _ | refine blk_drew ?_ | refine blk_alloc ?_ _)); exact BK412.out⟩
          have n4_ : Aside0 (((((((w39.setCell ⟨gb427, 0, none⟩ (.string ((rd_T40 l0_2 x34_2).f0))).setCell ⟨gb427, 1, none⟩ (.slice A426_1 ((rd_T40 l0_2 x34_2).f1).length c426_1)).setCell ⟨gb427, 2, none⟩ (.string ((rd_T40 l0_2 x34_2).f2))).setCell ⟨gb427, 3, none⟩ (.slice A426_3 ((rd_T40 l0_2 x34_2).f3).length c426_3)).setCell ⟨gb427, 4, none⟩ (.slice A426_4 ((rd_T40 l0_2 x34_2).f4).length c426_4)).setCell ⟨gb427, 5, none⟩ (.slice A426_5 ((rd_T40 l0_2 x34_2).f5).length c426_5)).heap[gb413]? = some (.cells #[.slice none 0 0, .slice none 0 0, .slice none 0 0] 26 (0, 0))) := ⟨by (with_reducible repeat (first | refine blk_drewN ?_ _ | refine blk_drew ?_ | refine blk_alloc ?_ _)); refine blk_far ?_ NB413_427.out _; (with_reducible repeat (first | refine blk_drewN ?_ _ | refine blk_drew ?_ | refine blk_alloc ?_ _)); refine blk_far ?_ NB413_427.out _; (with_reducible repeat (first | refine blk_drewN ?_ _ | refine blk_drew ?_ | refine blk_alloc ?_ _)); refine blk_far ?_ NB413_427.out _; (with_reducible repeat (first | refine blk_drewN ?_ _ | refine blk_drew ?_ | refine blk_alloc ?_ _)); refine blk_far ?_ NB413_427.out _; (with_reducible repeat (first | refine blk_drewN ?_ _ | refine blk_drew ?_ | refine blk_alloc ?_ _)); refine blk_far ?_ NB413_427.out _; (with_reducible repeat (first | refine blk_drewN ?_ _ | refine blk_drew ?_ | refine blk_alloc ?_ _)); refine blk_far ?_ NB413_427.out _; (with_reducible repeat (first | refine blk_drewN ?_ _ | refine blk_drew ?_ | refine blk_alloc ?_ _)); exact BK413.out⟩
          have n5_ : Aside0 (((((((w39.setCell ⟨gb427, 0, none⟩ (.string ((rd_T40 l0_2 x34_2).f0))).setCell ⟨gb427, 1, none⟩ (.slice A426_1 ((rd_T40 l0_2 x34_2).f1).length c426_1)).setCell ⟨gb427, 2, none⟩ (.string ((rd_T40 l0_2 x34_2).f2))).setCell ⟨gb427, 3, none⟩ (.slice A426_3 ((rd_T40 l0_2 x34_2).f3).length c426_3)).setCell ⟨gb427, 4, none⟩ (.slice A426_4 ((rd_T40 l0_2 x34_2).f4).length c426_4)).setCell ⟨gb427, 5, none⟩ (.slice A426_5 ((rd_T40 l0_2 x34_2).f5).length c426_5)).heap[gb417]? = some (.cells #[u418000, .slice Ao8 t414.length co8, u418002] 26 (0, 0))) := ⟨by (with_reducible repeat (first | refine blk_drewN ?_ _ | refine blk_drew ?_ | refine blk_alloc ?_ _)); refine blk_far ?_ NB417_427.out _; (with_reducible repeat (first | refine blk_drewN ?_ _ | refine blk_drew ?_ | refine blk_alloc ?_ _)); refine blk_far ?_ NB417_427.out _; (with_reducible repeat (first | refine blk_drewN ?_ _ | refine blk_drew ?_ | refine blk_alloc ?_ _)); refine blk_far ?_ NB417_427.out _; (with_reducible repeat (first | refine blk_drewN ?_ _ | refine blk_drew ?_ | refine blk_alloc ?_ _)); refine blk_far ?_ NB417_427.out _; (with_reducible repeat (first | refine blk_drewN ?_ _ | refine blk_drew ?_ | refine blk_alloc ?_ _)); refine blk_far ?_ NB417_427.out _; (with_reducible repeat (first | refine blk_drewN ?_ _ | refine blk_drew ?_ | refine blk_alloc ?_ _)); refine blk_far ?_ NB417_427.out _; (with_reducible repeat (first | refine blk_drewN ?_ _ | refine blk_drew ?_ | refine blk_alloc ?_ _)); exact BK417.out⟩
          have n6_ : Aside0 (((((((w39.setCell ⟨gb427, 0, none⟩ (.string ((rd_T40 l0_2 x34_2).f0))).setCell ⟨gb427, 1, none⟩ (.slice A426_1 ((rd_T40 l0_2 x34_2).f1).length c426_1)).setCell ⟨gb427, 2, none⟩ (.string ((rd_T40 l0_2 x34_2).f2))).setCell ⟨gb427, 3, none⟩ (.slice A426_3 ((rd_T40 l0_2 x34_2).f3).length c426_3)).setCell ⟨gb427, 4, none⟩ (.slice A426_4 ((rd_T40 l0_2 x34_2).f4).length c426_4)).setCell ⟨gb427, 5, none⟩ (.slice A426_5 ((rd_T40 l0_2 x34_2).f5).length c426_5)).heap[gb427]? = some (.cells #[.string ((rd_T40 l0_2 x34_2).f0), .slice A426_1 ((rd_T40 l0_2 x34_2).f1).length c426_1, .string ((rd_T40 l0_2 x34_2).f2), .slice A426_3 ((rd_T40 l0_2 x34_2).f3).length c426_3, .slice A426_4 ((rd_T40 l0_2 x34_2).f4).length c426_4, .slice A426_5 ((rd_T40 l0_2 x34_2).f5).length c426_5] 40 (0, 0))) := ⟨by (with_reducible repeat (first | refine blk_drewN ?_ _ | refine blk_drew ?_ | refine blk_alloc ?_ _)); refine blk_put (cs := #[.string ((rd_T40 l0_2 x34_2).f0), .slice A426_1 ((rd_T40 l0_2 x34_2).f1).length c426_1, .string ((rd_T40 l0_2 x34_2).f2), .slice A426_3 ((rd_T40 l0_2 x34_2).f3).length c426_3, .slice A426_4 ((rd_T40 l0_2 x34_2).f4).length c426_4, .slice none 0 0]) ?_ 5 _ rfl; (with_reducible repeat (first | refine blk_drewN ?_ _ | refine blk_drew ?_ | refine blk_alloc ?_ _)); refine blk_put (cs := #[.string ((rd_T40 l0_2 x34_2).f0), .slice A426_1 ((rd_T40 l0_2 x34_2).f1).length c426_1, .string ((rd_T40 l0_2 x34_2).f2), .slice A426_3 ((rd_T40 l0_2 x34_2).f3).length c426_3, .slice none 0 0, .slice none 0 0]) ?_ 4 _ rfl; (with_reducible repeat (first | refine blk_drewN ?_ _ | refine blk_drew ?_ | refine blk_alloc ?_ _)); refine blk_put (cs := #[.string ((rd_T40 l0_2 x34_2).f0), .slice A426_1 ((rd_T40 l0_2 x34_2).f1).length c426_1, .string ((rd_T40 l0_2 x34_2).f2), .slice none 0 0, .slice none 0 0, .slice none 0 0]) ?_ 3 _ rfl; (with_reducible repeat (first | refine blk_drewN ?_ _ | refine blk_drew ?_ | refine blk_alloc ?_ _)); refine blk_put (cs := #[.string ((rd_T40 l0_2 x34_2).f0), .slice A426_1 ((rd_T40 l0_2 x34_2).f1).length c426_1, .string (⟨#[]⟩ : ByteArray), .slice none 0 0, .slice none 0 0, .slice none 0 0]) ?_ 2 _ rfl; (with_reducible repeat (first | refine blk_drewN ?_ _ | refine blk_drew ?_ | refine blk_alloc ?_ _)); refine blk_put (cs := #[.string ((rd_T40 l0_2 x34_2).f0), .slice none 0 0, .string (⟨#[]⟩ : ByteArray), .slice none 0 0, .slice none 0 0, .slice none 0 0]) ?_ 1 _ rfl; (with_reducible repeat (first | refine blk_drewN ?_ _ | refine blk_drew ?_ | refine blk_alloc ?_ _)); refine blk_put (cs := #[.string (⟨#[]⟩ : ByteArray), .slice none 0 0, .string (⟨#[]⟩ : ByteArray), .slice none 0 0, .slice none 0 0, .slice none 0 0]) ?_ 0 _ rfl; (with_reducible repeat (first | refine blk_drewN ?_ _ | refine blk_drew ?_ | refine blk_alloc ?_ _)); exact BK427.out⟩
          have n7_ : Aside0 (Below w.heap.size w ((((((w39.setCell ⟨gb427, 0, none⟩ (.string ((rd_T40 l0_2 x34_2).f0))).setCell ⟨gb427, 1, none⟩ (.slice A426_1 ((rd_T40 l0_2 x34_2).f1).length c426_1)).setCell ⟨gb427, 2, none⟩ (.string ((rd_T40 l0_2 x34_2).f2))).setCell ⟨gb427, 3, none⟩ (.slice A426_3 ((rd_T40 l0_2 x34_2).f3).length c426_3)).setCell ⟨gb427, 4, none⟩ (.slice A426_4 ((rd_T40 l0_2 x34_2).f4).length c426_4)).setCell ⟨gb427, 5, none⟩ (.slice A426_5 ((rd_T40 l0_2 x34_2).f5).length c426_5))) := ⟨bq7⟩
          clear HO_418000 HO_418001 HO_418002 BK412 BK413 BK417 BK427 HB
          generalize ((((((w39.setCell ⟨gb427, 0, none⟩ (.string ((rd_T40 l0_2 x34_2).f0))).setCell ⟨gb427, 1, none⟩ (.slice A426_1 ((rd_T40 l0_2 x34_2).f1).length c426_1)).setCell ⟨gb427, 2, none⟩ (.string ((rd_T40 l0_2 x34_2).f2))).setCell ⟨gb427, 3, none⟩ (.slice A426_3 ((rd_T40 l0_2 x34_2).f3).length c426_3)).setCell ⟨gb427, 4, none⟩ (.slice A426_4 ((rd_T40 l0_2 x34_2).f4).length c426_4)).setCell ⟨gb427, 5, none⟩ (.slice A426_5 ((rd_T40 l0_2 x34_2).f5).length c426_5)) = w44 at n0_ n1_ n2_ n3_ n4_ n5_ n6_ n7_ ⊢
          have HO_418000 := n0_
          have HO_418001 := n1_
          have HO_418002 := n2_
          have BK412 := n3_
          have BK413 := n4_
          have BK417 := n5_
          have BK427 := n6_
          have HB := n7_
          clear n0_ n1_ n2_ n3_ n4_ n5_ n6_ n7_
          have n0_ := Aside0.mk (Kd.S_drew HO_418000.out)
          have n1_ := Aside0.mk (Kd.R_drew HO_418001.out)
          have n2_ := Aside0.mk (Kd.R_drew HO_418002.out)
          have n3_ := Aside0.mk (blk_drew BK412.out)
          have n4_ := Aside0.mk (blk_drew BK413.out)
          have n5_ := Aside0.mk (blk_drew BK417.out)
          have n6_ := Aside0.mk (blk_drew BK427.out)
          have n7_ := Aside0.mk (below_drew1 HB.out)
          clear HO_418000 HO_418001 HO_418002 BK412 BK413 BK417 BK427 HB
          have HO_418000 := n0_
          have HO_418001 := n1_
          have HO_418002 := n2_
          have BK412 := n3_
          have BK413 := n4_
          have BK417 := n5_
          have BK427 := n6_
          have HB := n7_
          clear n0_ n1_ n2_ n3_ n4_ n5_ n6_ n7_
          refine start_ (n := 8) (S := fun w' => w'.cell? ⟨gb417, 0, none⟩ = some (u418000) ∧ w'.cell? ⟨gb417, 1, none⟩ = some (.slice Ao8 t414.length co8) ∧ w'.cell? ⟨gb417, 2, none⟩ = some (u418002) ∧ w'.cell? ⟨gb427, 0, none⟩ = some (.string ((rd_T40 l0_2 x34_2).f0)) ∧ w'.cell? ⟨gb427, 1, none⟩ = some (.slice A426_1 ((rd_T40 l0_2 x34_2).f1).length c426_1) ∧ w'.cell? ⟨gb427, 2, none⟩ = some (.string ((rd_T40 l0_2 x34_2).f2)) ∧ w'.cell? ⟨gb427, 3, none⟩ = some (.slice A426_3 ((rd_T40 l0_2 x34_2).f3).length c426_3) ∧ w'.cell? ⟨gb427, 4, none⟩ = some (.slice A426_4 ((rd_T40 l0_2 x34_2).f4).length c426_4) ∧ w'.cell? ⟨gb427, 5, none⟩ = some (.slice A426_5 ((rd_T40 l0_2 x34_2).f5).length c426_5)) (ds := [7]) (tf 0 8) (by kernel_rfl) rfl rfl ⟨(blk_cell BK417.out 0).trans rfl, (blk_cell BK417.out 1).trans rfl, (blk_cell BK417.out 2).trans rfl, (blk_cell BK427.out 0).trans rfl, (blk_cell BK427.out 1).trans rfl, (blk_cell BK427.out 2).trans rfl, (blk_cell BK427.out 3).trans rfl, (blk_cell BK427.out 4).trans rfl, (blk_cell BK427.out 5).trans rfl⟩ (fun hHeld => ?_); refine with_tabW ir_Clone.tab10 ir_Clone.bits10 (fun HT_ HW_ => ?_)
          generalize w44.drew = w45 at HO_418000 HO_418001 HO_418002 BK412 BK413 BK417 BK427 HB hHeld ⊢
          refine pure_ (i := 0) (N := some 38) (v := ?_) (a' := ?_) (tf 1 7) rfl rfl (any_of HT_.out (by kernel_rfl)) (fun _ _ _ h => h) (Or.inl ⟨by rfl, ?_⟩) ?_ ?_
          rotate_left
          ·intro w'
           go_simp
           with_reducible rfl
          rotate_left
          ·simp only [Act.put, List.setIfInBounds_toArray, List.set_cons_zero, List.set_cons_succ, i64_w, i32_w]
           rfl
          refine take_ (i := 1) (N := some 39) (v := ?_) (a' := ?_) (tf 2 6) rfl rfl (take_ofW HT_.out HW_.out (by kernel_rfl)) (fun _ _ _ h => h) (Or.inl ⟨by rfl, ?_⟩) hHeld ?_ ?_
          rotate_left
          ·rintro w' ⟨s0, s1, s2, s3, s4, s5, s6, s7, s8⟩
           go_simp
           with_reducible rfl
          rotate_left
          ·simp only [Act.put, List.setIfInBounds_toArray, List.set_cons_zero, List.set_cons_succ, i64_w, i32_w]
           rfl
          refine take_ (i := 2) (N := some 40) (v := ?_) (a' := ?_) (tf 3 5) rfl rfl (take_ofW HT_.out HW_.out (by kernel_rfl)) (fun _ _ _ h => h) (Or.inl ⟨by rfl, ?_⟩) hHeld ?_ ?_
          rotate_left
          ·rintro w' ⟨s0, s1, s2, s3, s4, s5, s6, s7, s8⟩
           go_simp
           with_reducible rfl
          rotate_left
          ·simp only [Act.put, List.setIfInBounds_toArray, List.set_cons_zero, List.set_cons_succ, i64_w, i32_w]
           rfl
          refine one_ (i := 3) (N := some 41) (tf 4 4) rfl rfl (one_of HT_.out (by kernel_rfl)) (by decide) (fun K hK => ?_)
          refine goes_ Tryd.func44 (by kernel_rfl) rfl #[.agg #[.string ((rd_T40 l0_2 x34_2).f0), .slice A426_1 ((rd_T40 l0_2 x34_2).f1).length c426_1, .string ((rd_T40 l0_2 x34_2).f2), .slice A426_3 ((rd_T40 l0_2 x34_2).f3).length c426_3, .slice A426_4 ((rd_T40 l0_2 x34_2).f4).length c426_4, .slice A426_5 ((rd_T40 l0_2 x34_2).f5).length c426_5]] (by rfl) rfl rfl (bq48) ?_
          with_reducible refine (ir_cloneFun.calls k2 ((rd_T40 l0_2 x34_2).f0) _ _ ((rd_T40 l0_2 x34_2).f1) ((rd_T40 l0_2 x34_2).f2) _ _ ((rd_T40 l0_2 x34_2).f3) _ _ ((rd_T40 l0_2 x34_2).f4) _ _ ((rd_T40 l0_2 x34_2).f5) t428 t429 t432 t433 t436 t439 _ ?side1 ?side2 ?side3 ?side4 ?side5 ?side6 ?side7 ?side8 A37.out).mono ?_
          (case side1 => repeat (first | exact (Kd.C_below HR426_1.out HB.out) | (with_reducible refine Kd.C_alloc ?_ _) | (with_reducible refine Kd.C_drewN ?_ _) | (with_reducible refine Kd.C_drew ?_)))
          (case side2 => exact HC426_1.out)
          (case side3 => repeat (first | exact (Kd.C_below HR426_3.out HB.out) | (with_reducible refine Kd.C_alloc ?_ _) | (with_reducible refine Kd.C_drewN ?_ _) | (with_reducible refine Kd.C_drew ?_)))
          (case side4 => exact HC426_3.out)
          (case side5 => repeat (first | exact (Kd.C_below HR426_4.out HB.out) | (with_reducible refine Kd.C_alloc ?_ _) | (with_reducible refine Kd.C_drewN ?_ _) | (with_reducible refine Kd.C_drew ?_)))
          (case side6 => exact HC426_4.out)
          (case side7 => repeat (first | exact (Kd.C_below HR426_5.out HB.out) | (with_reducible refine Kd.C_alloc ?_ _) | (with_reducible refine Kd.C_drewN ?_ _) | (with_reducible refine Kd.C_drew ?_)))
          (case side8 => exact HC426_5.out)
          rintro e w46 ⟨v430, v434, v437, v440, rfl, ho0, ho1, ho2, ho3, hb⟩
          refine ⟨_, rfl, ?_⟩
          have n0_ := Aside0.mk (Kd.S_below (bq60) hb)
          have n1_ := Aside0.mk (Kd.R_below (bq61) hb)
          have n2_ := Aside0.mk (Kd.R_mono (Kd.R_told (Kd.R_told (Kd.R_told (Kd.R_told (Kd.R_old (bq62) hb) (Kd.R_base ho0)) (Kd.R_base ho1)) (Kd.S_base ho2)) (Kd.S_base ho3)) (fun _ h_ => h_.1))
          have n3_ := Aside0.mk (Kd.R_lower ho0 (below_size (bq7)))
          have n4_ := Aside0.mk (Kd.R_lower ho1 (below_size (bq7)))
          have n5_ := Aside0.mk (Kd.S_lower ho2 (below_size (bq7)))
          have n6_ := Aside0.mk (Kd.S_lower ho3 (below_size (bq7)))
          have n7_ := Aside0.mk (blkB BK412.out hb)
          have n8_ := Aside0.mk (blkB BK413.out hb)
          have n9_ := Aside0.mk (blkB BK417.out hb)
          have n10_ := Aside0.mk (blkB BK427.out hb)
          have n11_ := Aside0.mk (below_step (bq7) hb)
          clear HO_418000 HO_418001 HO_418002 BK412 BK413 BK417 BK427 HB
          have HO_418000 := n0_
          have HO_418001 := n1_
          have HO_418002 := n2_
          have HO431 := n3_
          have HO435 := n4_
          have HO438 := n5_
          have HO441 := n6_
          have BK412 := n7_
          have BK413 := n8_
          have BK417 := n9_
          have BK427 := n10_
          have HB := n11_
          clear n0_ n1_ n2_ n3_ n4_ n5_ n6_ n7_ n8_ n9_ n10_ n11_ hb ho0 ho1 ho2 ho3
          obtain ⟨Ao48, co48, eo48⟩ := Kd.R_slice HO431.out
          (first | subst eo48 | (injection eo48 with f1_ f2_ f3_; have f4_ := f1_.symm; have f5_ := f3_.symm; clear f1_ f2_ f3_; subst f4_; subst f5_))
          obtain ⟨Ao49, co49, eo49⟩ := Kd.R_slice HO435.out
          (first | subst eo49 | (injection eo49 with f1_ f2_ f3_; have f4_ := f1_.symm; have f5_ := f3_.symm; clear f1_ f2_ f3_; subst f4_; subst f5_))
          obtain ⟨Ao50, co50, eo50⟩ := Kd.S_slice HO438.out
          (first | subst eo50 | (injection eo50 with f1_ f2_ f3_; have f4_ := f1_.symm; have f5_ := f3_.symm; clear f1_ f2_ f3_; subst f4_; subst f5_))
          obtain ⟨Ao51, co51, eo51⟩ := Kd.S_slice HO441.out
          (first | subst eo51 | (injection eo51 with f1_ f2_ f3_; have f4_ := f1_.symm; have f5_ := f3_.symm; clear f1_ f2_ f3_; subst f4_; subst f5_))
          refine hK.out _ _ ⟨(blk_cell BK417.out 0).trans rfl, (blk_cell BK417.out 1).trans rfl, (blk_cell BK417.out 2).trans rfl, (blk_cell BK427.out 0).trans rfl, (blk_cell BK427.out 1).trans rfl, (blk_cell BK427.out 2).trans rfl, (blk_cell BK427.out 3).trans rfl, (blk_cell BK427.out 4).trans rfl, (blk_cell BK427.out 5).trans rfl⟩ (fun hHeld => ?_)
          clear hK K
          refine norm_ (a' := ?_) ?_ ?_
          rotate_left
          ·show Act.put _ (some 41) _ = _
           simp only [Act.put, List.setIfInBounds_toArray, List.set_cons_zero, List.set_cons_succ, i64_w, i32_w]
           rfl
          refine one_ (i := 4) (N := some 42) (tf 5 3) rfl rfl (one_of HT_.out (by kernel_rfl)) (by decide) (fun K hK => ?_)
          refine value_ (w1 := ?_) (v := ?_) (by rfl) rfl ?_ ?_
          rotate_left 2
          ·go_simp
           constructor
           ·rfl
           ·rfl
          refine hK.out _ _ ⟨(blk_cell (blk_alloc BK417.out _) 0).trans rfl, (blk_cell (blk_alloc BK417.out _) 1).trans rfl, (blk_cell (blk_alloc BK417.out _) 2).trans rfl, (blk_cell (blk_alloc BK427.out _) 0).trans rfl, (blk_cell (blk_alloc BK427.out _) 1).trans rfl, (blk_cell (blk_alloc BK427.out _) 2).trans rfl, (blk_cell (blk_alloc BK427.out _) 3).trans rfl, (blk_cell (blk_alloc BK427.out _) 4).trans rfl, (blk_cell (blk_alloc BK427.out _) 5).trans rfl⟩ (fun hHeld => ?_)
          clear hK K
          refine norm_ (a' := ?_) ?_ ?_
          rotate_left
          ·show Act.put _ (some 42) _ = _
           simp only [Act.put, List.setIfInBounds_toArray, List.set_cons_zero, List.set_cons_succ, i64_w, i32_w]
           rfl
          refine one_ (i := 5) (N := some 43) (tf 6 2) rfl rfl (one_of HT_.out (by kernel_rfl)) (by decide) (fun K hK => ?_)
          refine Kd.R_append_step k40 (w0 := w) w.heap.size (by rfl) (.tmp 39) (.tmp 42) 24 40 (.agg #[(.string ⟨#[]⟩), (.slice none 0 0), (.string ⟨#[]⟩), (.slice none 0 0), (.slice none 0 0), (.slice none 0 0)]) 128 rfl Tryd.underlying24 info40 rfl (by decide) (by omega) u418002 x418002_2 (⟨t428, t429, t432, t433, t436, t439⟩ : S40) [.string t428, .slice Ao48 t429.length co48, .string t432, .slice Ao49 t433.length co49, .slice Ao50 t436.length co50, .slice Ao51 t439.length co51] (fun k_ => k_ ≠ gb427) (fun k_ => ((fun k_ => k_ ≠ gb427)) k_ ∧ some k_ ≠ (u418002 : Value).ownBlock) rfl rfl ?aP (fun _ hk => hk) ?aF ?aO ?aB ?aS ?aL ?_
          (case aP => exact k40_mkM _ _ _ (⟨t428, t429, t432, t433, t436, t439⟩ : S40) (Kd.R_mono (Kd.R_types (Kd.R_apart' (HO431.out) (Kd.R_typed HO_418002.out) (by decide)) BK427.out (by decide)) (fun k_ hk => ⟨hk.2, hk.1.2⟩)) (Kd.R_mono (Kd.R_types (Kd.R_apart' (HO435.out) (Kd.R_typed HO_418002.out) (by decide)) BK427.out (by decide)) (fun k_ hk => ⟨hk.2, hk.1.2⟩)) (Kd.R_mono (Kd.R_types (Kd.R_apart' ((Kd.S_R HO438.out)) (Kd.R_typed HO_418002.out) (by decide)) BK427.out (by decide)) (fun k_ hk => ⟨hk.2, hk.1.2⟩)) (Kd.R_mono (Kd.R_types (Kd.R_apart' ((Kd.S_R HO441.out)) (Kd.R_typed HO_418002.out) (by decide)) BK427.out (by decide)) (fun k_ hk => ⟨hk.2, hk.1.2⟩)))
          (case aB => exact (bq7))
          (case aF => exact (fun k_ hk => Kd.freshB (g := gb427) (o := .cells #[.string ((rd_T40 l0_2 x34_2).f0), .slice A426_1 ((rd_T40 l0_2 x34_2).f1).length c426_1, .string ((rd_T40 l0_2 x34_2).f2), .slice A426_3 ((rd_T40 l0_2 x34_2).f3).length c426_3, .slice A426_4 ((rd_T40 l0_2 x34_2).f4).length c426_4, .slice A426_5 ((rd_T40 l0_2 x34_2).f5).length c426_5] 40 (0, 0)) (by (with_reducible repeat (first | refine blk_drewN ?_ _ | refine blk_drew ?_ | refine blk_alloc ?_ _)); exact BK427.out) k_ hk))
          (case aO => exact (by (with_reducible repeat (first | apply Kd.R_alloc | apply Kd.R_drewN | apply Kd.R_drew)); exact Kd.R_mono HO_418002.out (fun _ hk => hk.1.1.1.1)))
          (case aS => exact (below_size (bq7)))
          (case aL => have := LMc38.out; omega)
          intro v443 w47 ho hb hg hat
          rw [← Ny442.out] at ho
          have n0_ := Aside0.mk (Kd.S_over' (bq60) (Kd.R_typed (bq62)) (by decide) hg)
          have n1_ := Aside0.mk (Kd.R_over' (bq61) (Kd.R_typed (bq62)) (by decide) hg)
          have n2_ := Aside0.mk (blkG BK412.out hg (Kd.R_ne HO_418002.out BK412.out (by decide)))
          have n3_ := Aside0.mk (blkG BK413.out hg (Kd.R_ne HO_418002.out BK413.out (by decide)))
          have n4_ := Aside0.mk (blkG BK417.out hg (Kd.R_ne HO_418002.out BK417.out (by decide)))
          have n5_ := Aside0.mk (blkG BK427.out hg (Kd.R_away HO_418002.out (fun _ hk => hk.1.1.1.1)))
          have n6_ := Aside0.mk (hb)
          have n7_ := Aside0.mk (ho)
          clear HO_418000 HO_418001 BK412 BK413 BK417 BK427 HB HO_418002 HO431 HO435 HO438 HO441
          have HO_418000 := n0_
          have HO_418001 := n1_
          have BK412 := n2_
          have BK413 := n3_
          have BK417 := n4_
          have BK427 := n5_
          have HB := n6_
          have HO444 := n7_
          clear n0_ n1_ n2_ n3_ n4_ n5_ n6_ n7_ ho hb hg hat
          obtain ⟨Ao52, co52, eo52⟩ := Kd.R_slice HO444.out
          (first | subst eo52 | (injection eo52 with f1_ f2_ f3_; have f4_ := f1_.symm; have f5_ := f3_.symm; clear f1_ f2_ f3_; subst f4_; subst f5_))
          refine hK.out _ _ ⟨(blk_cell BK417.out 0).trans rfl, (blk_cell BK417.out 1).trans rfl, (blk_cell BK417.out 2).trans rfl, (blk_cell BK427.out 0).trans rfl, (blk_cell BK427.out 1).trans rfl, (blk_cell BK427.out 2).trans rfl, (blk_cell BK427.out 3).trans rfl, (blk_cell BK427.out 4).trans rfl, (blk_cell BK427.out 5).trans rfl⟩ (fun hHeld => ?_)
          clear hK K
          refine norm_ (a' := ?_) ?_ ?_
          rotate_left
          ·show Act.put _ (some 43) _ = _
           simp only [Act.put, List.setIfInBounds_toArray, List.set_cons_zero, List.set_cons_succ, i64_w, i32_w]
           rfl
          refine pure_ (i := 6) (N := some 44) (v := ?_) (a' := ?_) (tf 7 1) rfl rfl (any_of HT_.out (by kernel_rfl)) (fun _ _ _ h => h) (Or.inl ⟨by rfl, ?_⟩) ?_ ?_
          rotate_left
          ·intro w'
           go_simp
           with_reducible rfl
          rotate_left
          ·simp only [Act.put, List.setIfInBounds_toArray, List.set_cons_zero, List.set_cons_succ, i64_w, i32_w]
           rfl
          refine last_ (i := 7) (N := none) (tf 8 0) rfl rfl (one_of HT_.out (by kernel_rfl)) (by decide) (fun K hK => ?_)
          have hs53 : w47.cell? ⟨gb417, 2, none⟩ = some (u418002) := (blk_cell BK417.out 2).trans rfl
          have hfs53 := blk_frozen BK417.out 2
          have hns53_0 := NB412_417.out
          have hns53_1 := NB413_417.out
          have hns53_3 := NB427_417.out
          have hms53_0 := NB417_412.out
          have hms53_1 := NB417_413.out
          have hms53_3 := NB417_427.out
          refine skip_ (w1 := ?_) (by rfl) rfl ?_ ?_
          rotate_left
          ·go_simp
           rfl
          refine hK.out _ _ ?_
          clear hK K
          refine done_ (done_of HT_.out (by kernel_rfl)) ?_
          try go_wp2
          go_roundg k2
          case measure => have := HK1.out; have := HK2.out; omega
          case rel => exact ⟨(wrap64 (x34_2 + 1)), (y442), (.slice Ao52 y442.length co52), (bq78), H', ⟨by have := HK1.out; have := HK2.out; omega⟩, ⟨by (with_reducible repeat (first | apply Kd.S_alloc | apply Kd.S_drewN | apply Kd.S_drew)); exact Kd.S_mono (Kd.S_far (p := ⟨gb417, 2, none⟩) (Kd.S_types HO_418000.out BK417.out (by decide)) (fun _ hk => hk.2) (.slice Ao52 y442.length co52)) (fun _ hk => hk.1)⟩, ⟨by (with_reducible repeat (first | apply Kd.R_alloc | apply Kd.R_drewN | apply Kd.R_drew)); exact Kd.R_mono (Kd.R_far (p := ⟨gb417, 2, none⟩) (Kd.R_types HO_418001.out BK417.out (by decide)) (fun _ hk => hk.2) (.slice Ao52 y442.length co52)) (fun _ hk => trivial)⟩, ⟨by (with_reducible repeat (first | apply Kd.R_alloc | apply Kd.R_drewN | apply Kd.R_drew)); exact Kd.R_mono (Kd.R_far (p := ⟨gb417, 2, none⟩) (Kd.R_types HO444.out BK417.out (by decide)) (fun _ hk => hk.2) (.slice Ao52 y442.length co52)) (fun _ hk => trivial)⟩, ⟨by (with_reducible repeat (first | refine blk_drewN ?_ _ | refine blk_drew ?_ | refine blk_alloc ?_ _)); refine blk_far ?_ NB412_417.out _; (with_reducible repeat (first | refine blk_drewN ?_ _ | refine blk_drew ?_ | refine blk_alloc ?_ _)); exact BK412.out⟩, ⟨by (with_reducible repeat (first | refine blk_drewN ?_ _ | refine blk_drew ?_ | refine blk_alloc ?_ _)); refine blk_far ?_ NB413_417.out _; (with_reducible repeat (first | refine blk_drewN ?_ _ | refine blk_drew ?_ | refine blk_alloc ?_ _)); exact BK413.out⟩, ⟨by (with_reducible repeat (first | refine blk_drewN ?_ _ | refine blk_drew ?_ | refine blk_alloc ?_ _)); refine blk_put (cs := #[u418000, .slice Ao8 t414.length co8, u418002]) ?_ 2 _ rfl; (with_reducible repeat (first | refine blk_drewN ?_ _ | refine blk_drew ?_ | refine blk_alloc ?_ _)); exact BK417.out⟩, ⟨bq7⟩⟩
         ·rw [if_neg c38] at H
          exact absurd H (by simp)
        ·rw [if_neg c36] at H
         exact absurd H (by simp)
       ·rw [if_neg c35] at H
        exact absurd H (by simp)
      ·rw [if_neg c34] at H
       have c34b0 := decide_eq_false c34
       clear c34
       simp only [Option.some.injEq, Prod.mk.injEq] at H
       obtain ⟨rfl, rfl, rfl⟩ := H
       have hnb54 := NB417_412.out
       have hnc54 := NB412_417.out
       have hnb55 := NB417_413.out
       have hnc55 := NB413_417.out
       obtain ⟨hcz56_0, hcz56_1, hcz56_2, hfz56_0, hfz56_1, hfz56_2⟩ := bk3 BK417.out
       obtain ⟨Ao57, co57, eo57⟩ := Kd.S_slice HO_418000.out
       subst eo57
       have hnb58 := NB413_412.out
       have hnc58 := NB412_413.out
       obtain ⟨hcz59_0, hcz59_1, hcz59_2, hfz59_0, hfz59_1, hfz59_2⟩ := bk3 BK413.out
       obtain ⟨Ao60, co60, eo60⟩ := Kd.R_slice HO_418002.out
       subst eo60
       go_wp2
       refine bodyPost_ret (results_cell_row rfl _ _ gb413 26 #[.slice Ao57 x418000_1.length co57, .slice Ao8 t414.length co8, .slice Ao60 x418002_2.length co60] (0, 0) _ rfl (by (with_reducible repeat (first | refine blk_drewN ?_ _ | refine blk_drew ?_ | refine blk_alloc ?_ _)); refine blk_put (cs := #[.slice Ao57 x418000_1.length co57, .slice Ao8 t414.length co8, .slice none 0 0]) ?_ 2 _ rfl; (with_reducible repeat (first | refine blk_drewN ?_ _ | refine blk_drew ?_ | refine blk_alloc ?_ _)); refine blk_put (cs := #[.slice Ao57 x418000_1.length co57, .slice none 0 0, .slice none 0 0]) ?_ 1 _ rfl; (with_reducible repeat (first | refine blk_drewN ?_ _ | refine blk_drew ?_ | refine blk_alloc ?_ _)); refine blk_put (cs := #[.slice none 0 0, .slice none 0 0, .slice none 0 0]) ?_ 0 _ rfl; (with_reducible repeat (first | refine blk_drewN ?_ _ | refine blk_drew ?_ | refine blk_alloc ?_ _)); exact BK413.out) Tryd.underlying26 rfl (by kernel_rfl)) rfl ?_
       exact ⟨_, _, _, by first | rfl | (simp [errW_none, errW_some] <;> rfl) | (simp [*, errW_none, errW_some] <;> rfl), by (with_reducible repeat (first | apply Kd.S_alloc | apply Kd.S_drewN | apply Kd.S_drew)); exact Kd.S_mono (Kd.S_far (p := ⟨gb413, 2, none⟩) (Kd.S_far (p := ⟨gb413, 1, none⟩) (Kd.S_far (p := ⟨gb413, 0, none⟩) (Kd.S_types HO_418000.out BK413.out (by decide)) (fun _ hk => hk.2) (.slice Ao57 x418000_1.length co57)) (fun _ hk => hk.2) (.slice Ao8 t414.length co8)) (fun _ hk => hk.2) (.slice Ao60 x418002_2.length co60)) (fun _ hk => hk.1), by (with_reducible repeat (first | apply Kd.R_alloc | apply Kd.R_drewN | apply Kd.R_drew)); exact Kd.R_mono (Kd.R_far (p := ⟨gb413, 2, none⟩) (Kd.R_far (p := ⟨gb413, 1, none⟩) (Kd.R_far (p := ⟨gb413, 0, none⟩) (Kd.R_types HO_418001.out BK413.out (by decide)) (fun _ hk => hk.2) (.slice Ao57 x418000_1.length co57)) (fun _ hk => hk.2) (.slice Ao8 t414.length co8)) (fun _ hk => hk.2) (.slice Ao60 x418002_2.length co60)) (fun _ hk => trivial), by (with_reducible repeat (first | apply Kd.R_alloc | apply Kd.R_drewN | apply Kd.R_drew)); exact Kd.R_mono (Kd.R_far (p := ⟨gb413, 2, none⟩) (Kd.R_far (p := ⟨gb413, 1, none⟩) (Kd.R_far (p := ⟨gb413, 0, none⟩) (Kd.R_types HO_418002.out BK413.out (by decide)) (fun _ hk => hk.2) (.slice Ao57 x418000_1.length co57)) (fun _ hk => hk.2) (.slice Ao8 t414.length co8)) (fun _ hk => hk.2) (.slice Ao60 x418002_2.length co60)) (fun _ hk => trivial), bq13⟩
/-! ### truantlaw08_one: function 28 -/
def truantlaw08_one.f  : Option (ByteArray × List ByteArray × ByteArray × List ByteArray × (List (S47)) × (List (S53))) := some ((⟨#[102]⟩ : ByteArray), (([(⟨#[105, 110, 116]⟩ : ByteArray), (⟨#[105, 110, 116]⟩ : ByteArray)] : List ByteArray)), (⟨#[105, 110, 116]⟩ : ByteArray), ([] : List ByteArray), (([(⟨20, (⟨#[105, 110, 116]⟩ : ByteArray), ([] : List Int), 0, (⟨#[]⟩ : ByteArray)⟩ : S47), (⟨20, (⟨#[105, 110, 116]⟩ : ByteArray), ([] : List Int), 1, (⟨#[]⟩ : ByteArray)⟩ : S47), (⟨1, (⟨#[105, 110, 116]⟩ : ByteArray), (([0, 1] : List Int)), 0, (⟨#[]⟩ : ByteArray)⟩ : S47)] : List (S47))), (([(⟨(([0, 1, 2] : List Int)), 3, 2, (⟨0, 0⟩ : S51)⟩ : S53)] : List (S53))))
set_option maxHeartbeats 8000000 in
set_option maxRecDepth 100000 in
theorem truantlaw08_one.calls  (r1 : ByteArray) (r2 : List ByteArray) (r3 : ByteArray) (r4 : List ByteArray) (r5 : List (S47)) (r6 : List (S53)) (w : World) (h : truantlaw08_one.f  = some (r1, r2, r3, r4, r5, r6)) :
  Calls Tryd.prog 28 #[] w fun e w' => ∃ v1_ v3_ v4_ v5_ : Value, e = .returned (.agg #[.string r1, v1_, .string r3, v3_, v4_, v5_]) ∧ Kd.R Kd.string 9 w' w.heap.size (fun k_ => (w.heap.size ≤ k_) ∧ some k_ ≠ (v3_ : Value).ownBlock) v1_ r2 ∧ Kd.R Kd.string 9 w' w.heap.size (fun k_ => (w.heap.size ≤ k_) ∧ some k_ ≠ (v1_ : Value).ownBlock) v3_ r4 ∧ Kd.N k47 47 w' w.heap.size (fun k_ => (w.heap.size ≤ k_) ∧ some k_ ≠ (v1_ : Value).ownBlock ∧ some k_ ≠ (v3_ : Value).ownBlock ∧ some k_ ≠ (v5_ : Value).ownBlock) v4_ r5 ∧ Kd.N k53 53 w' w.heap.size (fun k_ => (w.heap.size ≤ k_) ∧ some k_ ≠ (v1_ : Value).ownBlock ∧ some k_ ≠ (v3_ : Value).ownBlock ∧ some k_ ≠ (v4_ : Value).ownBlock) v5_ r6 ∧ Below w.heap.size w w' := by
 have hu40 := Tryd.underlying40
 have hu47 := Tryd.underlying47
 have hu53 := Tryd.underlying53
 have HB := Aside0.mk (Below.refl w.heap.size w)
 have H : (some ((⟨#[102]⟩ : ByteArray), (([(⟨#[105, 110, 116]⟩ : ByteArray), (⟨#[105, 110, 116]⟩ : ByteArray)] : List ByteArray)), (⟨#[105, 110, 116]⟩ : ByteArray), ([] : List ByteArray), (([(⟨20, (⟨#[105, 110, 116]⟩ : ByteArray), ([] : List Int), 0, (⟨#[]⟩ : ByteArray)⟩ : S47), (⟨20, (⟨#[105, 110, 116]⟩ : ByteArray), ([] : List Int), 1, (⟨#[]⟩ : ByteArray)⟩ : S47), (⟨1, (⟨#[105, 110, 116]⟩ : ByteArray), (([0, 1] : List Int)), 0, (⟨#[]⟩ : ByteArray)⟩ : S47)] : List (S47))), (([(⟨(([0, 1, 2] : List Int)), 3, 2, (⟨0, 0⟩ : S51)⟩ : S53)] : List (S53))))) = some (r1, r2, r3, r4, r5, r6) := h
 clear h
 obtain ⟨y446, hy446⟩ : ∃ y_ : List ByteArray, y_ = (([(⟨#[105, 110, 116]⟩ : ByteArray), (⟨#[105, 110, 116]⟩ : ByteArray)] : List ByteArray)) := ⟨_, rfl⟩
 replace H : (some ((⟨#[102]⟩ : ByteArray), y446, (⟨#[105, 110, 116]⟩ : ByteArray), ([] : List ByteArray), (([(⟨20, (⟨#[105, 110, 116]⟩ : ByteArray), ([] : List Int), 0, (⟨#[]⟩ : ByteArray)⟩ : S47), (⟨20, (⟨#[105, 110, 116]⟩ : ByteArray), ([] : List Int), 1, (⟨#[]⟩ : ByteArray)⟩ : S47), (⟨1, (⟨#[105, 110, 116]⟩ : ByteArray), (([0, 1] : List Int)), 0, (⟨#[]⟩ : ByteArray)⟩ : S47)] : List (S47))), (([(⟨(([0, 1, 2] : List Int)), 3, 2, (⟨0, 0⟩ : S51)⟩ : S53)] : List (S53))))) = some (r1, r2, r3, r4, r5, r6) := by first | (rw [hy446]; with_reducible exact H) | (have H2_ := (Option.bind_some _ _).symm.trans H; rw [hy446]; with_reducible exact H2_) | (have H2_ := (Option.bind_some _ _).symm.trans H; with_reducible exact H2_) | with_reducible exact H | (rw [hy446]; exact H) | exact H
 have Ny446 := Aside0.mk hy446
 clear hy446
 obtain ⟨y449, hy449⟩ : ∃ y_ : List Int, y_ = (([0, 1] : List Int)) := ⟨_, rfl⟩
 replace H : (some ((⟨#[102]⟩ : ByteArray), y446, (⟨#[105, 110, 116]⟩ : ByteArray), ([] : List ByteArray), (([(⟨20, (⟨#[105, 110, 116]⟩ : ByteArray), ([] : List Int), 0, (⟨#[]⟩ : ByteArray)⟩ : S47), (⟨20, (⟨#[105, 110, 116]⟩ : ByteArray), ([] : List Int), 1, (⟨#[]⟩ : ByteArray)⟩ : S47), (⟨1, (⟨#[105, 110, 116]⟩ : ByteArray), y449, 0, (⟨#[]⟩ : ByteArray)⟩ : S47)] : List (S47))), (([(⟨(([0, 1, 2] : List Int)), 3, 2, (⟨0, 0⟩ : S51)⟩ : S53)] : List (S53))))) = some (r1, r2, r3, r4, r5, r6) := by first | (rw [hy449]; with_reducible exact H) | (have H2_ := (Option.bind_some _ _).symm.trans H; rw [hy449]; with_reducible exact H2_) | (have H2_ := (Option.bind_some _ _).symm.trans H; with_reducible exact H2_) | with_reducible exact H | (rw [hy449]; exact H) | exact H
 have Ny449 := Aside0.mk hy449
 clear hy449
 obtain ⟨y452, hy452⟩ : ∃ y_ : List (S47), y_ = (([(⟨20, (⟨#[105, 110, 116]⟩ : ByteArray), ([] : List Int), 0, (⟨#[]⟩ : ByteArray)⟩ : S47), (⟨20, (⟨#[105, 110, 116]⟩ : ByteArray), ([] : List Int), 1, (⟨#[]⟩ : ByteArray)⟩ : S47), (⟨1, (⟨#[105, 110, 116]⟩ : ByteArray), y449, 0, (⟨#[]⟩ : ByteArray)⟩ : S47)] : List (S47))) := ⟨_, rfl⟩
 replace H : (some ((⟨#[102]⟩ : ByteArray), y446, (⟨#[105, 110, 116]⟩ : ByteArray), ([] : List ByteArray), y452, (([(⟨(([0, 1, 2] : List Int)), 3, 2, (⟨0, 0⟩ : S51)⟩ : S53)] : List (S53))))) = some (r1, r2, r3, r4, r5, r6) := by first | (rw [hy452]; with_reducible exact H) | (have H2_ := (Option.bind_some _ _).symm.trans H; rw [hy452]; with_reducible exact H2_) | (have H2_ := (Option.bind_some _ _).symm.trans H; with_reducible exact H2_) | with_reducible exact H | (rw [hy452]; exact H) | exact H
 have Ny452 := Aside0.mk hy452
 clear hy452
 obtain ⟨y455, hy455⟩ : ∃ y_ : List Int, y_ = (([0, 1, 2] : List Int)) := ⟨_, rfl⟩
 replace H : (some ((⟨#[102]⟩ : ByteArray), y446, (⟨#[105, 110, 116]⟩ : ByteArray), ([] : List ByteArray), y452, (([(⟨y455, 3, 2, (⟨0, 0⟩ : S51)⟩ : S53)] : List (S53))))) = some (r1, r2, r3, r4, r5, r6) := by first | (rw [hy455]; with_reducible exact H) | (have H2_ := (Option.bind_some _ _).symm.trans H; rw [hy455]; with_reducible exact H2_) | (have H2_ := (Option.bind_some _ _).symm.trans H; with_reducible exact H2_) | with_reducible exact H | (rw [hy455]; exact H) | exact H
 have Ny455 := Aside0.mk hy455
 clear hy455
 obtain ⟨y458, hy458⟩ : ∃ y_ : List (S53), y_ = (([(⟨y455, 3, 2, (⟨0, 0⟩ : S51)⟩ : S53)] : List (S53))) := ⟨_, rfl⟩
 replace H : (some ((⟨#[102]⟩ : ByteArray), y446, (⟨#[105, 110, 116]⟩ : ByteArray), ([] : List ByteArray), y452, y458)) = some (r1, r2, r3, r4, r5, r6) := by first | (rw [hy458]; with_reducible exact H) | (have H2_ := (Option.bind_some _ _).symm.trans H; rw [hy458]; with_reducible exact H2_) | (have H2_ := (Option.bind_some _ _).symm.trans H; with_reducible exact H2_) | with_reducible exact H | (rw [hy458]; exact H) | exact H
 have Ny458 := Aside0.mk hy458
 clear hy458
 simp only [Option.some.injEq, Prod.mk.injEq] at H
 obtain ⟨rfl, rfl, rfl, rfl, rfl, rfl⟩ := H
 go_enter Tryd.func28, Tryd.ntmps28
 go_wp2_with (first | ((with_reducible refine gate_dst (N := 0) rfl ?_); refine box_event ?hg (N := 0) ?hd (cs := #[.string (⟨#[]⟩ : ByteArray), .slice none 0 0, .string (⟨#[]⟩ : ByteArray), .slice none 0 0, .slice none 0 0, .slice none 0 0]) (t := 40) ?hr ?_; (case hd => rfl); (case hg => rfl); (case hr => first | (go_simp; done) | (go_simp; rfl)); intro gb445 hg w1 hbox hb; have n0_ := Aside0.mk (below_step (bq51) hb); have n1_ := Aside0.mk (hbox); have n2_ := Aside0.mk ((bq35 : w.heap.size ≤ gb445)); have n3_ := Aside0.mk ((bq35 : w.heap.size ≤ gb445)); clear HB; have HB := n0_; have BK445 := n1_; have GW445 := n2_; have GE445 := n3_; clear n0_ n1_ n2_ n3_ hb hbox hg) | ((with_reducible refine gate_dst (N := 1) rfl ?_); refine Kd.R_lit Kd.string _ 9 ?hg (N := 1) ?hd (xs := ([(⟨#[105, 110, 116]⟩ : ByteArray), (⟨#[105, 110, 116]⟩ : ByteArray)] : List ByteArray)) (inner := [.string (⟨#[105, 110, 116]⟩ : ByteArray), .string (⟨#[105, 110, 116]⟩ : ByteArray)]) (ok := fun _ => True) (okp := fun _ => True) ?hr ?hp (fun _ hk => hk) trivial (Below.refl _ _) (Nat.le_refl _) (by simp) ?_; (case hd => rfl); (case hg => rfl); (case hr => first | (go_simp; done) | (go_simp; rfl)); (case hp => exact (Reps.one (show Kd.M Kd.string _ _ _ (⟨#[105, 110, 116]⟩ : ByteArray) [.string (⟨#[105, 110, 116]⟩ : ByteArray)] from rfl) (Reps.one (show Kd.M Kd.string _ _ _ (⟨#[105, 110, 116]⟩ : ByteArray) [.string (⟨#[105, 110, 116]⟩ : ByteArray)] from rfl) (Reps.none _ _)))); intro v447 w2 ho3 hb hg_ hnew_; clear hg_ hnew_; (first | rw [← Ny446.out] at ho3 | (simp only [Int.reduceToNat] at ho3; rw [← Ny446.out] at ho3)); have n0_ := Aside0.mk (Kd.R_lower (Kd.R_newM (M := fun k_ => (w.heap.size ≤ k_)) ho3 (below_size (bq45)) (fun k_ h_ => h_)) (below_size (bq45))); have n1_ := Aside0.mk (blkB BK445.out hb); have n2_ := Aside0.mk (below_step (bq45) hb); clear BK445 HB; have HO448 := n0_; have BK445 := n1_; have HB := n2_; clear n0_ n1_ n2_ hb ho3) | ((with_reducible refine gate_dst (N := 4) rfl ?_); refine Kd.R_lit (Kd.int .i64) _ 3 ?hg (N := 4) ?hd (xs := ([0, 1] : List Int)) (inner := [.int .i64 0, .int .i64 1]) (ok := fun _ => True) (okp := fun _ => True) ?hr ?hp (fun _ hk => hk) trivial (Below.refl _ _) (Nat.le_refl _) (by simp) ?_; (case hd => rfl); (case hg => rfl); (case hr => first | (go_simp; done) | (go_simp; rfl)); (case hp => exact (Reps.one (show Kd.M (Kd.int .i64) _ _ _ 0 [.int .i64 0] from rfl) (Reps.one (show Kd.M (Kd.int .i64) _ _ _ 1 [.int .i64 1] from rfl) (Reps.none _ _)))); intro v450 w4 ho5 hb hg_ hnew_; clear hg_ hnew_; (first | rw [← Ny449.out] at ho5 | (simp only [Int.reduceToNat] at ho5; rw [← Ny449.out] at ho5)); have n0_ := Aside0.mk (Kd.R_below (bq69) hb); have n1_ := Aside0.mk (Kd.R_lower (Kd.R_newM (M := fun k_ => (w.heap.size ≤ k_)) ho5 (below_size (bq45)) (fun k_ h_ => h_)) (below_size (bq45))); have n2_ := Aside0.mk (blkB BK445.out hb); have n3_ := Aside0.mk (below_step (bq45) hb); clear HO448 BK445 HB; have HO448 := n0_; have HO451 := n1_; have BK445 := n2_; have HB := n3_; clear n0_ n1_ n2_ n3_ hb ho5; obtain ⟨Ao6, co6, eo6⟩ := Kd.R_slice HO451.out; subst eo6) | ((with_reducible refine gate_dst (N := 6) rfl ?_); refine Kd.N_lit k47 _ 47 ?hg (N' := 6) ?hd (xs := ([(⟨20, (⟨#[105, 110, 116]⟩ : ByteArray), ([] : List Int), 0, (⟨#[]⟩ : ByteArray)⟩ : S47), (⟨20, (⟨#[105, 110, 116]⟩ : ByteArray), ([] : List Int), 1, (⟨#[]⟩ : ByteArray)⟩ : S47), (⟨1, (⟨#[105, 110, 116]⟩ : ByteArray), y449, 0, (⟨#[]⟩ : ByteArray)⟩ : S47)] : List (S47))) (inner := [.int .i64 20, .string (⟨#[105, 110, 116]⟩ : ByteArray), .slice none 0 0, .int .i64 0, .string (⟨#[]⟩ : ByteArray), .int .i64 20, .string (⟨#[105, 110, 116]⟩ : ByteArray), .slice none 0 0, .int .i64 1, .string (⟨#[]⟩ : ByteArray), .int .i64 1, .string (⟨#[105, 110, 116]⟩ : ByteArray), .slice Ao6 y449.length co6, .int .i64 0, .string (⟨#[]⟩ : ByteArray)]) (ok := (fun k_ => (w.heap.size ≤ k_) ∧ some k_ ≠ (v447 : Value).ownBlock ∧ k_ ≠ gb445)) (okp := (fun k_ => (w.heap.size ≤ k_) ∧ some k_ ≠ (v447 : Value).ownBlock ∧ k_ ≠ gb445)) ?hr ?hp (fun _ hk => hk) ((show ∀ k_, w4.heap.size ≤ k_ → (fun k_ => (w.heap.size ≤ k_) ∧ some k_ ≠ (v447 : Value).ownBlock ∧ k_ ≠ gb445) k_ from fun k_ hk => ⟨(Nat.le_trans (below_size (bq45)) hk), Kd.fresh' (Kd.R_lt (bq69)) k_ hk, Kd.freshB (g := gb445) (o := .cells #[.string (⟨#[]⟩ : ByteArray), .slice none 0 0, .string (⟨#[]⟩ : ByteArray), .slice none 0 0, .slice none 0 0, .slice none 0 0] 40 (0, 0)) (bq55) k_ hk⟩) _ (Nat.le_refl _)) (Below.refl _ _) (Nat.le_refl _) (by simp) ?_; (case hd => rfl); (case hg => rfl); (case hr => first | (go_simp; done) | (go_simp; rfl)); (case hp => exact (Reps.c5 (show Kd.FK k47 _ _ (⟨20, (⟨#[105, 110, 116]⟩ : ByteArray), ([] : List Int), 0, (⟨#[]⟩ : ByteArray)⟩ : S47) [.int .i64 20, .string (⟨#[105, 110, 116]⟩ : ByteArray), .slice none 0 0, .int .i64 0, .string (⟨#[]⟩ : ByteArray)] from (k47_mkF _ _ (⟨20, (⟨#[105, 110, 116]⟩ : ByteArray), ([] : List Int), 0, (⟨#[]⟩ : ByteArray)⟩ : S47) (Nat.le_refl _) (Kd.F_nil _ _ _))) (Reps.c5 (show Kd.FK k47 _ _ (⟨20, (⟨#[105, 110, 116]⟩ : ByteArray), ([] : List Int), 1, (⟨#[]⟩ : ByteArray)⟩ : S47) [.int .i64 20, .string (⟨#[105, 110, 116]⟩ : ByteArray), .slice none 0 0, .int .i64 1, .string (⟨#[]⟩ : ByteArray)] from (k47_mkF _ _ (⟨20, (⟨#[105, 110, 116]⟩ : ByteArray), ([] : List Int), 1, (⟨#[]⟩ : ByteArray)⟩ : S47) (Nat.le_refl _) (Kd.F_nil _ _ _))) (Reps.c5 (show Kd.FK k47 _ _ (⟨1, (⟨#[105, 110, 116]⟩ : ByteArray), y449, 0, (⟨#[]⟩ : ByteArray)⟩ : S47) [.int .i64 1, .string (⟨#[105, 110, 116]⟩ : ByteArray), .slice Ao6 y449.length co6, .int .i64 0, .string (⟨#[]⟩ : ByteArray)] from (k47_mkF _ _ (⟨1, (⟨#[105, 110, 116]⟩ : ByteArray), y449, 0, (⟨#[]⟩ : ByteArray)⟩ : S47) (Kd.R_reads' (Kd.R_mono (ok' := (fun k_ => (w.heap.size ≤ k_) ∧ some k_ ≠ (v447 : Value).ownBlock ∧ k_ ≠ gb445)) (Kd.R_types (Kd.R_apart' (HO451.out) (Kd.R_typed HO448.out) (by decide)) BK445.out (by decide)) (fun k_ hk => ⟨hk.1.1.1, ⟨hk.1.2, hk.2⟩⟩))).2.1 (Kd.R_F (Kd.R_mono (ok' := (fun k_ => (w.heap.size ≤ k_) ∧ some k_ ≠ (v447 : Value).ownBlock ∧ k_ ≠ gb445)) (Kd.R_types (Kd.R_apart' (HO451.out) (Kd.R_typed HO448.out) (by decide)) BK445.out (by decide)) (fun k_ hk => ⟨hk.1.1.1, ⟨hk.1.2, hk.2⟩⟩))))) (Reps.none _ _))))); intro v453 w7 ho8 hb hg_ hnew_; clear hg_ hnew_; (first | rw [← Ny452.out] at ho8 | (simp only [Int.reduceToNat] at ho8; rw [← Ny452.out] at ho8)); have n0_ := Aside0.mk (Kd.R_below (bq69) hb); have n1_ := Aside0.mk (Kd.N_lower ho8 (below_size (bq45))); have n2_ := Aside0.mk (blkB BK445.out hb); have n3_ := Aside0.mk (below_step (bq45) hb); clear HO448 BK445 HB HO451; have HO448 := n0_; have HO454 := n1_; have BK445 := n2_; have HB := n3_; clear n0_ n1_ n2_ n3_ hb ho8) | ((with_reducible refine gate_dst (N := 7) rfl ?_); refine Kd.R_lit (Kd.int .i64) _ 3 ?hg (N := 7) ?hd (xs := ([0, 1, 2] : List Int)) (inner := [.int .i64 0, .int .i64 1, .int .i64 2]) (ok := fun _ => True) (okp := fun _ => True) ?hr ?hp (fun _ hk => hk) trivial (Below.refl _ _) (Nat.le_refl _) (by simp) ?_; (case hd => rfl); (case hg => rfl); (case hr => first | (go_simp; done) | (go_simp; rfl)); (case hp => exact (Reps.one (show Kd.M (Kd.int .i64) _ _ _ 0 [.int .i64 0] from rfl) (Reps.one (show Kd.M (Kd.int .i64) _ _ _ 1 [.int .i64 1] from rfl) (Reps.one (show Kd.M (Kd.int .i64) _ _ _ 2 [.int .i64 2] from rfl) (Reps.none _ _))))); intro v456 w9 ho10 hb hg_ hnew_; clear hg_ hnew_; (first | rw [← Ny455.out] at ho10 | (simp only [Int.reduceToNat] at ho10; rw [← Ny455.out] at ho10)); have n0_ := Aside0.mk (Kd.R_below (bq69) hb); have n1_ := Aside0.mk (Kd.N_elder' (bq70) (Kd.R_base ho10) hb); have n2_ := Aside0.mk (Kd.R_lower (Kd.R_newM (M := fun k_ => (w.heap.size ≤ k_)) ho10 (below_size (bq45)) (fun k_ h_ => h_)) (below_size (bq45))); have n3_ := Aside0.mk (blkB BK445.out hb); have n4_ := Aside0.mk (below_step (bq45) hb); clear HO448 HO454 BK445 HB; have HO448 := n0_; have HO454 := n1_; have HO457 := n2_; have BK445 := n3_; have HB := n4_; clear n0_ n1_ n2_ n3_ n4_ hb ho10; obtain ⟨Ao11, co11, eo11⟩ := Kd.R_slice HO457.out; subst eo11) | ((with_reducible refine gate_dst (N := 9) rfl ?_); refine Kd.N_lit k53 _ 53 ?hg (N' := 9) ?hd (xs := ([(⟨y455, 3, 2, (⟨0, 0⟩ : S51)⟩ : S53)] : List (S53))) (inner := [.slice Ao11 y455.length co11, .int .i64 3, .int .i64 2, .int .i64 0, .int .i64 0]) (ok := (fun k_ => (w.heap.size ≤ k_) ∧ some k_ ≠ (v447 : Value).ownBlock ∧ some k_ ≠ (v453 : Value).ownBlock ∧ k_ ≠ gb445)) (okp := (fun k_ => (w.heap.size ≤ k_) ∧ some k_ ≠ (v447 : Value).ownBlock ∧ some k_ ≠ (v453 : Value).ownBlock ∧ k_ ≠ gb445)) ?hr ?hp (fun _ hk => hk) ((show ∀ k_, w9.heap.size ≤ k_ → (fun k_ => (w.heap.size ≤ k_) ∧ some k_ ≠ (v447 : Value).ownBlock ∧ some k_ ≠ (v453 : Value).ownBlock ∧ k_ ≠ gb445) k_ from fun k_ hk => ⟨(Nat.le_trans (below_size (bq45)) hk), Kd.fresh' (Kd.R_lt (bq69)) k_ hk, Kd.fresh' (Kd.N_lt (bq70)) k_ hk, Kd.freshB (g := gb445) (o := .cells #[.string (⟨#[]⟩ : ByteArray), .slice none 0 0, .string (⟨#[]⟩ : ByteArray), .slice none 0 0, .slice none 0 0, .slice none 0 0] 40 (0, 0)) (bq55) k_ hk⟩) _ (Nat.le_refl _)) (Below.refl _ _) (Nat.le_refl _) (by simp) ?_; (case hd => rfl); (case hg => rfl); (case hr => first | (go_simp; done) | (go_simp; rfl)); (case hp => exact (Reps.c5 (show Kd.FK k53 _ _ (⟨y455, 3, 2, (⟨0, 0⟩ : S51)⟩ : S53) [.slice Ao11 y455.length co11, .int .i64 3, .int .i64 2, .int .i64 0, .int .i64 0] from (k53_mkF _ _ (⟨y455, 3, 2, (⟨0, 0⟩ : S51)⟩ : S53) (Kd.R_reads' (Kd.R_mono (ok' := (fun k_ => (w.heap.size ≤ k_) ∧ some k_ ≠ (v447 : Value).ownBlock ∧ some k_ ≠ (v453 : Value).ownBlock ∧ k_ ≠ gb445)) (Kd.R_types (Kd.R_apart' (Kd.R_apart' (HO457.out) (Kd.R_typed HO448.out) (by decide)) (Kd.N_typed HO454.out) (by decide)) BK445.out (by decide)) (fun k_ hk => ⟨hk.1.1.1.1, ⟨hk.1.1.2, ⟨hk.1.2, hk.2⟩⟩⟩))).2.1 (Kd.R_F (Kd.R_mono (ok' := (fun k_ => (w.heap.size ≤ k_) ∧ some k_ ≠ (v447 : Value).ownBlock ∧ some k_ ≠ (v453 : Value).ownBlock ∧ k_ ≠ gb445)) (Kd.R_types (Kd.R_apart' (Kd.R_apart' (HO457.out) (Kd.R_typed HO448.out) (by decide)) (Kd.N_typed HO454.out) (by decide)) BK445.out (by decide)) (fun k_ hk => ⟨hk.1.1.1.1, ⟨hk.1.1.2, ⟨hk.1.2, hk.2⟩⟩⟩))))) (Reps.none _ _))); intro v459 w12 ho13 hb hg_ hnew_; clear hg_ hnew_; (first | rw [← Ny458.out] at ho13 | (simp only [Int.reduceToNat] at ho13; rw [← Ny458.out] at ho13)); have n0_ := Aside0.mk (Kd.R_below (bq69) hb); have n1_ := Aside0.mk (Kd.N_elder' (bq70) (by first | exact Kd.N_base ho13 | exact Kd.S_base ho13 | exact Kd.R_base ho13) hb); have n2_ := Aside0.mk (Kd.N_lower ho13 (below_size (bq45))); have n3_ := Aside0.mk (blkB BK445.out hb); have n4_ := Aside0.mk (below_step (bq45) hb); clear HO448 HO454 BK445 HB HO457; have HO448 := n0_; have HO454 := n1_; have HO460 := n2_; have BK445 := n3_; have HB := n4_; clear n0_ n1_ n2_ n3_ n4_ hb ho13; obtain ⟨Ao14, co14, eo14⟩ := Kd.N_slice HO460.out; subst eo14; obtain ⟨Ao15, co15, eo15⟩ := Kd.N_slice HO454.out; subst eo15; obtain ⟨Ao16, co16, eo16⟩ := Kd.R_slice HO448.out; subst eo16; obtain ⟨hcz17_0, hcz17_1, hcz17_2, hcz17_3, hcz17_4, hcz17_5, hfz17_0, hfz17_1, hfz17_2, hfz17_3, hfz17_4, hfz17_5⟩ := bk6 BK445.out))
 refine bodyPost_ret (results_cell_row rfl _ _ gb445 40 #[.string (⟨#[102]⟩ : ByteArray), .slice Ao16 y446.length co16, .string (⟨#[105, 110, 116]⟩ : ByteArray), .slice none 0 0, .slice Ao15 y452.length co15, .slice Ao14 y458.length co14] (0, 0) _ rfl (by (with_reducible repeat (first | refine blk_drewN ?_ _ | refine blk_drew ?_ | refine blk_alloc ?_ _)); refine blk_put (cs := #[.string (⟨#[102]⟩ : ByteArray), .slice Ao16 y446.length co16, .string (⟨#[105, 110, 116]⟩ : ByteArray), .slice none 0 0, .slice Ao15 y452.length co15, .slice none 0 0]) ?_ 5 _ rfl; (with_reducible repeat (first | refine blk_drewN ?_ _ | refine blk_drew ?_ | refine blk_alloc ?_ _)); refine blk_put (cs := #[.string (⟨#[102]⟩ : ByteArray), .slice Ao16 y446.length co16, .string (⟨#[105, 110, 116]⟩ : ByteArray), .slice none 0 0, .slice none 0 0, .slice none 0 0]) ?_ 4 _ rfl; (with_reducible repeat (first | refine blk_drewN ?_ _ | refine blk_drew ?_ | refine blk_alloc ?_ _)); refine blk_put (cs := #[.string (⟨#[102]⟩ : ByteArray), .slice Ao16 y446.length co16, .string (⟨#[105, 110, 116]⟩ : ByteArray), .slice none 0 0, .slice none 0 0, .slice none 0 0]) ?_ 3 _ rfl; (with_reducible repeat (first | refine blk_drewN ?_ _ | refine blk_drew ?_ | refine blk_alloc ?_ _)); refine blk_put (cs := #[.string (⟨#[102]⟩ : ByteArray), .slice Ao16 y446.length co16, .string (⟨#[]⟩ : ByteArray), .slice none 0 0, .slice none 0 0, .slice none 0 0]) ?_ 2 _ rfl; (with_reducible repeat (first | refine blk_drewN ?_ _ | refine blk_drew ?_ | refine blk_alloc ?_ _)); refine blk_put (cs := #[.string (⟨#[102]⟩ : ByteArray), .slice none 0 0, .string (⟨#[]⟩ : ByteArray), .slice none 0 0, .slice none 0 0, .slice none 0 0]) ?_ 1 _ rfl; (with_reducible repeat (first | refine blk_drewN ?_ _ | refine blk_drew ?_ | refine blk_alloc ?_ _)); refine blk_put (cs := #[.string (⟨#[]⟩ : ByteArray), .slice none 0 0, .string (⟨#[]⟩ : ByteArray), .slice none 0 0, .slice none 0 0, .slice none 0 0]) ?_ 0 _ rfl; (with_reducible repeat (first | refine blk_drewN ?_ _ | refine blk_drew ?_ | refine blk_alloc ?_ _)); exact BK445.out) Tryd.underlying40 rfl (by kernel_rfl)) rfl ?_
 exact ⟨_, _, _, _, by first | rfl | (simp [errW_none, errW_some] <;> rfl) | (simp [*, errW_none, errW_some] <;> rfl), by (with_reducible repeat (first | apply Kd.R_alloc | apply Kd.R_drewN | apply Kd.R_drew)); exact Kd.R_mono (Kd.R_far (p := ⟨gb445, 5, none⟩) (Kd.R_far (p := ⟨gb445, 4, none⟩) (Kd.R_far (p := ⟨gb445, 3, none⟩) (Kd.R_far (p := ⟨gb445, 2, none⟩) (Kd.R_far (p := ⟨gb445, 1, none⟩) (Kd.R_far (p := ⟨gb445, 0, none⟩) (Kd.R_types HO448.out BK445.out (by decide)) (fun _ hk => hk.2) (.string (⟨#[102]⟩ : ByteArray))) (fun _ hk => hk.2) (.slice Ao16 y446.length co16)) (fun _ hk => hk.2) (.string (⟨#[105, 110, 116]⟩ : ByteArray))) (fun _ hk => hk.2) (.slice none 0 0)) (fun _ hk => hk.2) (.slice Ao15 y452.length co15)) (fun _ hk => hk.2) (.slice Ao14 y458.length co14)) (fun _ hk => ⟨hk.1.1, (by simp [Value.ownBlock])⟩), by first | exact Kd.R_nil _ _ _ _ _ | exact Kd.N_nil _ _ _ _ _ | exact Kd.V_nil _ _ _ _ _ | exact Kd.Q_nil _ _ _ _ _ | exact Kd.S_nil _ _ _ _ _, by (with_reducible repeat (first | apply Kd.N_alloc | apply Kd.N_drewN | apply Kd.N_drew)); exact Kd.N_mono (Kd.N_far (p := ⟨gb445, 5, none⟩) (Kd.N_far (p := ⟨gb445, 4, none⟩) (Kd.N_far (p := ⟨gb445, 3, none⟩) (Kd.N_far (p := ⟨gb445, 2, none⟩) (Kd.N_far (p := ⟨gb445, 1, none⟩) (Kd.N_far (p := ⟨gb445, 0, none⟩) (Kd.N_mono HO454.out (fun k_ hk => (⟨hk, hk.1.1.2.2⟩ : _ ∧ k_ ≠ gb445))) (fun _ hk => hk.2) (.string (⟨#[102]⟩ : ByteArray))) (fun _ hk => hk.2) (.slice Ao16 y446.length co16)) (fun _ hk => hk.2) (.string (⟨#[105, 110, 116]⟩ : ByteArray))) (fun _ hk => hk.2) (.slice none 0 0)) (fun _ hk => hk.2) (.slice Ao15 y452.length co15)) (fun _ hk => hk.2) (.slice Ao14 y458.length co14)) (fun _ hk => ⟨hk.1.1.1.1, ⟨hk.1.1.1.2.1, ⟨(by simp [Value.ownBlock]), hk.1.2⟩⟩⟩), by (with_reducible repeat (first | apply Kd.N_alloc | apply Kd.N_drewN | apply Kd.N_drew)); exact Kd.N_mono (Kd.N_far (p := ⟨gb445, 5, none⟩) (Kd.N_far (p := ⟨gb445, 4, none⟩) (Kd.N_far (p := ⟨gb445, 3, none⟩) (Kd.N_far (p := ⟨gb445, 2, none⟩) (Kd.N_far (p := ⟨gb445, 1, none⟩) (Kd.N_far (p := ⟨gb445, 0, none⟩) (Kd.N_mono HO460.out (fun k_ hk => (⟨hk, hk.2.2.2⟩ : _ ∧ k_ ≠ gb445))) (fun _ hk => hk.2) (.string (⟨#[102]⟩ : ByteArray))) (fun _ hk => hk.2) (.slice Ao16 y446.length co16)) (fun _ hk => hk.2) (.string (⟨#[105, 110, 116]⟩ : ByteArray))) (fun _ hk => hk.2) (.slice none 0 0)) (fun _ hk => hk.2) (.slice Ao15 y452.length co15)) (fun _ hk => hk.2) (.slice Ao14 y458.length co14)) (fun _ hk => ⟨hk.1.1, ⟨hk.1.2.1, ⟨(by simp [Value.ownBlock]), hk.1.2.2.1⟩⟩⟩), bq45⟩
/-! ### slices_Index_int_int: function 56 -/
def slices_Index_int_int.l0 : Nat → List Int → Int → Int → Int → Option (Int)
 | 0, _, _, _, _ => none
 | k + 1, x0, x1, x7, x8 => if x8 < x7 then (if 0 ≤ x8 then (if x8 < (x0.length : Int) then (if x1 = (rd x0 x8) then (some x8) else (slices_Index_int_int.l0 k x0 x1 x7 (wrap64 (x8 + 1)))) else (none)) else (none)) else (some (-1))
def slices_Index_int_int.f (k : Nat) (l0 : List Int) (a1 : Int) : Option (Int) := slices_Index_int_int.l0 k l0 a1 (l0.length : Int) 0
theorem slices_Index_int_int.mono_l : ∀ k, (∀ y0 y1 y2 y3, LeO (slices_Index_int_int.l0 k y0 y1 y2 y3) (slices_Index_int_int.l0 (k + 1) y0 y1 y2 y3))
 | 0 => fun _ _ _ _ r h => by simp [slices_Index_int_int.l0] at h
 | k + 1 => by
  have ih0 := slices_Index_int_int.mono_l k
  ·intro y0 y1 y2 y3
   unfold slices_Index_int_int.l0
   repeat' first
   | (with_reducible exact ih0 _ _ _ _)
   | (with_reducible exact LeO.refl _)
   | (with_reducible refine LeO.ite ?_ ?_)
theorem slices_Index_int_int.mono : ∀ a0 a1 k, LeO (slices_Index_int_int.f k a0 a1) (slices_Index_int_int.f (k + 1) a0 a1) := by
 intro a0 a1 k
 have ih0 := slices_Index_int_int.mono_l k
 unfold slices_Index_int_int.f
 repeat' first
   | (with_reducible exact ih0 _ _ _ _)
set_option maxHeartbeats 8000000 in
set_option maxRecDepth 100000 in
theorem slices_Index_int_int.calls (k : Nat) (A0 : Option Addr) (c0 : Nat) (l0 : List Int) (a1 : Int) (r : Int) (w : World) (hr0 : Kd.C (Kd.int .i64) w A0 l0.length l0) (hc0 : l0.length ≤ c0) (h : slices_Index_int_int.f k l0 a1 = some r) :
  Calls Tryd.prog 56 #[.slice A0 l0.length c0, .int .i64 a1] w fun e w' => e = .returned (.int .i64 r) ∧ Drawn0 w w' := by
 have HR0 := Aside0.mk hr0
 have HC0 := Aside0.mk hc0
 clear hr0 hc0
 have H : (slices_Index_int_int.l0 k l0 a1 (l0.length : Int) 0) = some r := h
 clear h
 have H' := Aside0.mk H
 clear H
 go_enter Tryd.func56, Tryd.ntmps56
 go_wp2
 go_loopg [8] k (fun kq v8 w' => ∃ (x8_1 : Int), v8 = .int .i64 x8_1 ∧ Aside0 (slices_Index_int_int.l0 kq l0 a1 (l0.length : Int) x8_1 = some r) ∧ Aside0 (kq ≤ k) ∧ Drawn0 w w')
 case atStart => exact ⟨(0), (bq78), H', ⟨Nat.le_refl _⟩, by repeat (first | exact Drawn0.refl _ | apply Drawn0.step)⟩
 case round =>
  clear H'
  obtain ⟨x8_1, rfl, HA, HK1, ⟨m1, rfl⟩⟩ := hrel
  cases gk with
  | zero => exact absurd HA.out (by simp [slices_Index_int_int.l0])
  | succ k1 =>
   have H := HA.out
   clear HA
   simp only [slices_Index_int_int.l0] at H
   by_cases c3 : x8_1 < (l0.length : Int)
   ·rw [if_pos c3] at H
    have c3b0 := decide_eq_true c3
    clear c3
    by_cases c4 : 0 ≤ x8_1
    ·rw [if_pos c4] at H
     have c4b0 := decide_eq_true c4
     clear c4
     by_cases c5 : x8_1 < (l0.length : Int)
     ·rw [if_pos c5] at H
      have c5b0 := decide_eq_true c5
      clear c5
      by_cases c6 : a1 = (rd l0 x8_1)
      ·rw [if_pos c6] at H
       have c6b0 : (a1 == (rd l0 x8_1)) = true := beq_iff_eq.mpr c6
       have c6b1 : (a1 != (rd l0 x8_1)) = false := bne_eq_false_iff_eq.mpr c6
       clear c6
       obtain rfl := Option.some.inj H
       have p251 : 0 ≤ (x8_1 : Int) := of_decide_eq_true (bq77)
       have q251 : x8_1 < (l0.length : Int) := of_decide_eq_true (bq77)
       obtain ⟨ad251, e251, hx251_0⟩ := Kd.at_int HR0.out x8_1 p251 q251
       cases e251
       replace p251 := eq_true p251
       replace q251 := eq_true q251
       go_wp2
       go_ret
       exact ⟨bq78, by repeat (first | exact Drawn0.refl _ | apply Drawn0.step)⟩
      ·rw [if_neg c6] at H
       have c6b0 : (a1 == (rd l0 x8_1)) = false := beq_eq_false_iff_ne.mpr c6
       have c6b1 : (a1 != (rd l0 x8_1)) = true := bne_iff_ne.mpr c6
       have H' := Aside0.mk H
       clear H
       have p251 : 0 ≤ (x8_1 : Int) := of_decide_eq_true (bq77)
       have q251 : x8_1 < (l0.length : Int) := of_decide_eq_true (bq77)
       obtain ⟨ad251, e251, hx251_0⟩ := Kd.at_int HR0.out x8_1 p251 q251
       cases e251
       replace p251 := eq_true p251
       replace q251 := eq_true q251
       go_wp2
       go_roundg k1
       case measure => have := HK1.out; omega
       case rel => exact ⟨(wrap64 (x8_1 + 1)), (bq78), H', ⟨by have := HK1.out; omega⟩, by repeat (first | exact Drawn0.refl _ | apply Drawn0.step)⟩
     ·rw [if_neg c5] at H
      exact absurd H (by simp)
    ·rw [if_neg c4] at H
     exact absurd H (by simp)
   ·rw [if_neg c3] at H
    have c3b0 := decide_eq_false c3
    clear c3
    obtain rfl := Option.some.inj H
    go_wp2
    go_ret
    exact ⟨bq78, by repeat (first | exact Drawn0.refl _ | apply Drawn0.step)⟩
/-! ### slices_Contains_int_int: function 38 -/
def slices_Contains_int_int.f (k : Nat) (l0 : List Int) (a1 : Int) : Option (Bool) := (slices_Index_int_int.f k l0 a1).bind fun t252 => (some (decide (t252 ≥ 0)))
theorem slices_Contains_int_int.mono : ∀ a0 a1 k, LeO (slices_Contains_int_int.f k a0 a1) (slices_Contains_int_int.f (k + 1) a0 a1) := by
 intro a0 a1 k
 unfold slices_Contains_int_int.f
 repeat' first
   | (with_reducible exact slices_Index_int_int.mono _ _ _)
   | (with_reducible exact LeO.refl _)
   | (with_reducible refine LeO.bind ?_ (fun _ => ?_))
set_option maxHeartbeats 8000000 in
set_option maxRecDepth 100000 in
theorem slices_Contains_int_int.calls (k : Nat) (A0 : Option Addr) (c0 : Nat) (l0 : List Int) (a1 : Int) (r : Bool) (w : World) (hr0 : Kd.C (Kd.int .i64) w A0 l0.length l0) (hc0 : l0.length ≤ c0) (h : slices_Contains_int_int.f k l0 a1 = some r) :
  Calls Tryd.prog 38 #[.slice A0 l0.length c0, .int .i64 a1] w fun e w' => e = .returned (.bool r) ∧ Drawn0 w w' := by
 have HR0 := Aside0.mk hr0
 have HC0 := Aside0.mk hc0
 clear hr0 hc0
 have H : ((slices_Index_int_int.f k l0 a1).bind fun t252 => (some (decide (t252 ≥ 0)))) = some r := h
 clear h
 replace H := Option.bind_eq_some_iff.mp H
 obtain ⟨t252, A30, H⟩ := H
 (try dsimp only at H)
 have A3 := Aside0.mk A30
 clear A30
 obtain rfl := Option.some.inj H
 go_enter Tryd.func38, Tryd.ntmps38
 go_wp2_with (first | ((with_reducible refine gate_callee (f := 56) rfl ?_); refine goesL_ (some 7) rfl rfl Tryd.func56 (by kernel_rfl) rfl #[.slice A0 l0.length c0, .int .i64 a1] rfl (bq48) ?_; (with_reducible refine (slices_Index_int_int.calls k _ _ l0 a1 t252 _ ?side1 ?side2 A3.out).mono ?_); (case side1 => repeat (first | exact HR0.out | (with_reducible refine Kd.C_alloc ?_ _) | (with_reducible refine Kd.C_drewN ?_ _) | (with_reducible refine Kd.C_drew ?_))); (case side2 => exact HC0.out); rintro e w' ⟨rfl, ⟨nd, rfl⟩⟩; refine ⟨_, rfl, ?_⟩))
 go_ret
 exact ⟨bq78, by repeat (first | exact Drawn0.refl _ | apply Drawn0.step)⟩
end Go.Proofs.YtkiiojgaaoaipaaDoor.Q
/- Rows of ints of one's own under the library's Sort, Compact: the shelf's contracts in the words of the printed walks. -/
namespace Go.Proofs.YtkiiojgaaoaipaaDoor.Q
open Go.RowKit Go.Proofs.YtkiiojgaaoaipaaDoorW.PrintWords Go.Proofs.YtkiiojgaaoaipaaDoorW.PrintLast Go.Proofs.YtkiiojgaaoaipaaDoorW.PrintMore
set_option linter.unusedVariables false
set_option linter.unusedSimpArgs false
open Go.Sort Go.Shelf Go.Lib
section
variable {e base : Nat} {ok : Nat → Prop} {w : World} {v : Value} {xs : List Int}
theorem grow_none (W : World) : grow W #[] = W := by simp [grow]
theorem int_row (h : (Kd.int .i64).R e w base ok v xs) : (v = .slice none 0 0 ∧ xs = []) ∨ ∃ g c, v = .slice (some ⟨g, 0, none⟩) xs.length c ∧ xs.length ≤ c ∧ c ≤ maxLen ∧ Holds (Value.int .i64) w g 0 xs.toArray ∧ g < w.heap.size ∧ base ≤ g ∧
  ∀ (q : Nat) (os : Array Obj) (ts : List Int), ts.length = xs.length → (Kd.int .i64).R e (grow (putRow (Value.int .i64) (Sort.ahead w q) g 0 ts.toArray) os) base ok (.slice (some ⟨g, 0, none⟩) xs.length c) ts ∧ w.grownBy (grow (putRow (Value.int .i64) (Sort.ahead w q) g 0 ts.toArray) os) (some g) := by
 have ho := Kd.own_of_R h
 rcases ho.2 with ⟨h1, h2⟩ | ⟨g, cap, cur, rfl, hbase, hb, h1, h2, h3, h4⟩
 ·left
  have hl := (Kd.R_own h).choose_spec.1
  refine ⟨h1, ?_⟩
  rw [h1] at h
  obtain ⟨hn, _⟩ := Kd.R_reads' h
  exact List.eq_nil_of_length_eq_zero hn.symm
 ·right
  refine ⟨g, cap, rfl, h1, h2, holds_of_blockI hb (by simpa [encs] using h4), (Array.getElem?_eq_some_iff.1 hb).1, hbase, fun q os ts hl => ⟨?_, grownBy_sortedI _⟩⟩
  have hs := ownsRow_sortedI (n := q) (os := os) (ts := ts) (ss := xs) hl hbase hb h1 h2 h3
  exact Kd.R_of_own (by rw [hl]; exact hs) (fun k hk => h.1 k hk)
end
theorem grown_self (w : World) (row : Option Nat) : w.grownBy w row := ⟨rfl, rfl, rfl, Nat.le_refl _, fun _ _ _ => rfl⟩
theorem compact_le (xs : List Int) : (Lib.compact xs).length ≤ xs.length := by
 unfold Lib.compact Lib.compactUpTo
 rw [List.length_map]
 refine Nat.le_trans (List.length_filter_le _ _) ?_
 simp
theorem sort_R {base : Nat} {ok : Nat → Prop} {w : World} {v : Value} {xs : List Int} (h : (Kd.int .i64).R 3 w base ok v xs) (hsz : xs.length < 4611686018427387904) :
  Calls Tryd.prog 39 #[v] w fun e w' => e = .returned (.tuple #[]) ∧ (Kd.int .i64).R 3 w' base ok v (xs.mergeSort fun x y => decide (x ≤ y)) ∧ w.grownBy w' v.ownBlock := by
 rcases int_row h with ⟨rfl, rfl⟩ | ⟨g, c, rfl, h1, h2, h3, h4, h5, h6⟩
 ·refine (Tryd.slices_Sort_int_none none 0 w).mono ?_
  rintro e w' ⟨rfl, rfl⟩
  exact ⟨rfl, by rw [List.mergeSort_nil]; exact Kd.R_nil _ _ _ _ _, grown_self _ _⟩
 ·refine (Tryd.slices_Sort_int g 0 c xs w h3 h4 hsz).mono ?_
  rintro e w' ⟨rfl, n, os, rfl⟩
  obtain ⟨q1, q2⟩ := h6 n os (xs.mergeSort fun x y => decide (x ≤ y)) (List.length_mergeSort _)
  exact ⟨rfl, q1, q2⟩
theorem compact_R {base : Nat} {ok : Nat → Prop} {w : World} {v : Value} {xs : List Int} (h : (Kd.int .i64).R 3 w base ok v xs) :
  Calls Tryd.prog 40 #[v] w fun e w' => ∃ v', e = .returned v' ∧ (Kd.int .i64).R 3 w' base ok v' (Lib.compact xs) ∧ w.grownBy w' v.ownBlock ∧ v'.ownBlock = v.ownBlock := by
 rcases int_row h with ⟨rfl, rfl⟩ | ⟨g, c, rfl, h1, h2, h3, h4, h5, h6⟩
 ·refine (Tryd.slices_Compact_int_empty none 0 w).mono ?_
  rintro e w' ⟨rfl, rfl⟩
  exact ⟨_, rfl, Kd.R_nil _ _ _ _ _, grown_self _ _, rfl⟩
 ·refine (Tryd.slices_Compact_int g 0 c xs w h3 (by unfold maxLen at h2; omega) h1).mono ?_
  rintro e w' ⟨rfl, q, rfl⟩
  have hc := compact_le xs
  obtain ⟨q1, q2⟩ := h6 q #[] (Lib.compact xs ++ List.replicate (xs.length - (Lib.compact xs).length) 0) (by simp; omega)
  rw [grow_none] at q1 q2
  have q3 := Kd.R_take (m := (Lib.compact xs).length) q1 (by simp)
  rw [List.take_left'  rfl] at q3
  exact ⟨_, rfl, q3, q2, rfl⟩
end Go.Proofs.YtkiiojgaaoaipaaDoor.Q
/- 'ir.Uses': by hand. -/
namespace Go.Proofs.YtkiiojgaaoaipaaDoor.Q
open Go.RowKit Go.Proofs.YtkiiojgaaoaipaaDoorW.PrintWords Go.Proofs.YtkiiojgaaoaipaaDoorW.PrintLast Go.Proofs.YtkiiojgaaoaipaaDoorW.PrintMore
set_option linter.unusedVariables false
set_option linter.unusedSimpArgs false
theorem idx_l (l : List Int) (x : Int) (hm : l.length ≤ 9223372036854775807) (d : Nat) : ∀ (k i : Nat), i ≤ l.length → l.length - i = d → d < k → (∀ j : Nat, j < i → l.getD j 0 ≠ x) → ∃ r, slices_Index_int_int.l0 k l x (l.length : Int) (i : Int) = some r ∧ decide (r ≥ 0) = l.contains x := by
 induction d with
 | zero =>
  intro k i h0 hd hk h
  obtain ⟨k, rfl⟩ : ∃ m, k = m + 1 := ⟨k - 1, by omega⟩
  refine ⟨-1, by simp only [slices_Index_int_int.l0]; rw [if_neg (by omega)], ?_⟩
  rw [decide_eq_false (by omega)]
  symm
  rw [← Bool.not_eq_true, List.contains_iff_mem]
  intro hx
  obtain ⟨j, hj, e⟩ := List.mem_iff_getElem.mp hx
  exact h j (by omega) (by rw [getD_at _ _ hj]; exact e)
 | succ d ih =>
  intro k i h0 hd hk h
  obtain ⟨k, rfl⟩ : ∃ m, k = m + 1 := ⟨k - 1, by omega⟩
  by_cases e : x = rd l (i : Int)
  ·refine ⟨i, by simp only [slices_Index_int_int.l0]; rw [if_pos (by omega), if_pos (by omega), if_pos (by omega), if_pos e], ?_⟩
   rw [decide_eq_true (by omega)]
   symm
   rw [List.contains_iff_mem, e]
   unfold rd
   rw [Int.toNat_natCast, getD_at _ _ (by omega)]
   exact List.getElem_mem _
  ·obtain ⟨r, h1, h2⟩ := ih k (i + 1) (by omega) (by omega) (by omega) (all_succ h (by unfold rd at e; rw [Int.toNat_natCast] at e; exact fun q => e q.symm))
   refine ⟨r, ?_, h2⟩
   simp only [slices_Index_int_int.l0]
   rw [if_pos (by omega), if_pos (by omega), if_pos (by omega), if_neg e, wrap_succ (by omega) (by omega)]
   exact h1
theorem contains_is (l : List Int) (x : Int) (hm : l.length ≤ 9223372036854775807) : slices_Contains_int_int.f (l.length + 1) l x = some (l.contains x) := by
 obtain ⟨r, h1, h2⟩ := idx_l l x hm l.length (l.length + 1) 0 (by omega) (by omega) (by omega) (fun j hj => by omega)
 unfold slices_Contains_int_int.f slices_Index_int_int.f
 have h3 : slices_Index_int_int.l0 (l.length + 1) l x (l.length : Int) 0 = some r := h1
 rw [h3, Option.bind_some, h2]
def hasArg (ins : List S47) (p x : Int) : Bool := decide (0 ≤ x) && (decide (x < (ins.length : Int)) && (rd_T47 ins x).f2.contains p)
def usesTo (ins : List S47) (p : Int) (bs : List S53) : List Int := (bs.map (fun b => b.f0.filter (hasArg ins p))).flatten
def listed (bs : List S53) : Nat := (bs.map (fun b => b.f0.length)).sum
theorem uses_len (ins : List S47) (p : Int) : ∀ bs, (usesTo ins p bs).length ≤ listed bs
 | [] => Nat.le_refl _
 | b :: bs => by
  have h1 := uses_len ins p bs
  have h2 := List.length_filter_le (hasArg ins p) b.f0
  simp only [usesTo, listed, List.map_cons, List.flatten_cons, List.sum_cons, List.length_append] at h1 ⊢
  omega
theorem uses_snoc (ins : List S47) (p : Int) (bs : List S53) (b : S53) : usesTo ins p (bs ++ [b]) = usesTo ins p bs ++ b.f0.filter (hasArg ins p) := by simp [usesTo]
theorem listed_take (bs : List S53) (i : Nat) : listed (bs.take i) ≤ listed bs := by
 have h : listed bs = listed (bs.take i) + listed (bs.drop i) := by
  unfold listed
  conv => lhs; rw [← List.take_append_drop i bs, List.map_append, List.sum_append]
 omega
def sortC (l : List Int) : List Int := Go.Lib.compact (l.mergeSort fun x y => decide (x ≤ y))
def ir_Uses.f (a0_0 : ByteArray) (l0_1 : List ByteArray) (a0_2 : ByteArray) (l0_3 : List ByteArray) (l0_4 : List (S47)) (l0_5 : List (S53)) (a1 : Int) : Option (List Int) := if listed l0_5 ≤ 1000000 then some (sortC (usesTo l0_4 a1 l0_5)) else none
set_option maxRecDepth 100000 in
set_option maxHeartbeats 4000000 in
theorem ir_Uses.calls (a0_0 : ByteArray) (A0_1 : Option Addr) (c0_1 : Nat) (l0_1 : List ByteArray) (a0_2 : ByteArray) (A0_3 : Option Addr) (c0_3 : Nat) (l0_3 : List ByteArray) (A0_4 : Option Addr) (c0_4 : Nat) (l0_4 : List (S47)) (A0_5 : Option Addr) (c0_5 : Nat) (l0_5 : List (S53)) (a1 : Int) (r : List Int) (w : World) (hr0_1 : Kd.C Kd.string w A0_1 l0_1.length l0_1) (hc0_1 : l0_1.length ≤ c0_1) (hr0_3 : Kd.C Kd.string w A0_3 l0_3.length l0_3) (hc0_3 : l0_3.length ≤ c0_3) (hr0_4 : Kd.C k47 w A0_4 l0_4.length l0_4) (hc0_4 : l0_4.length ≤ c0_4) (hr0_5 : Kd.C k53 w A0_5 l0_5.length l0_5) (hc0_5 : l0_5.length ≤ c0_5) (h : ir_Uses.f a0_0 l0_1 a0_2 l0_3 l0_4 l0_5 a1 = some r) :
  Calls Tryd.prog 22 #[.agg #[.string a0_0, .slice A0_1 l0_1.length c0_1, .string a0_2, .slice A0_3 l0_3.length c0_3, .slice A0_4 l0_4.length c0_4, .slice A0_5 l0_5.length c0_5], .int .i64 a1] w fun e w' => ∃ v0_ : Value, e = .returned (v0_) ∧ Kd.R (Kd.int .i64) 3 w' w.heap.size (fun _ => True) v0_ r ∧ Below w.heap.size w w' := by
 unfold ir_Uses.f at h
 split at h
 case isFalse => cases h
 rename_i hls
 obtain rfl := Option.some.inj h
 clear h
 have HLS := Aside0.mk hls; clear hls
 have hb0 := below_alloc (Below.refl w.heap.size w) (.cells #[.string a0_0, .slice A0_1 l0_1.length c0_1, .string a0_2, .slice A0_3 l0_3.length c0_3, .slice A0_4 l0_4.length c0_4, .slice A0_5 l0_5.length c0_5] 40)
 have HB0 := Aside0.mk hb0; clear hb0
 have hblk := blk_new w (.cells #[.string a0_0, .slice A0_1 l0_1.length c0_1, .string a0_2, .slice A0_3 l0_3.length c0_3, .slice A0_4 l0_4.length c0_4, .slice A0_5 l0_5.length c0_5] 40)
 have HBX := Aside0.mk hblk; clear hblk
 have hm5 := Kd.C_max hr0_5
 have hm4 := Kd.C_max hr0_4
 go_enter Tryd.func22, Tryd.ntmps22
 go_upto_region 2 with fail
 generalize hW0 : w.alloc (.cells #[.string a0_0, .slice A0_1 l0_1.length c0_1, .string a0_2, .slice A0_3 l0_3.length c0_3, .slice A0_4 l0_4.length c0_4, .slice A0_5 l0_5.length c0_5] 40) = W0 at HB0 HBX ⊢
 clear hW0
 have h5c := blk_cell HBX.out 5
 generalize hbw : w.heap.size = bw at HBX h5c ⊢
 go_wp2
 go_loopg [5, 13] l0_5.length (fun kq v5 v13 wr => ∃ (i : Nat), v13 = .int .i64 i ∧ i + kq = l0_5.length ∧ Aside0 (Below W0.heap.size W0 wr) ∧ Aside0 ((Kd.int .i64).R 3 wr W0.heap.size (fun _ => True) v5 (usesTo l0_4 a1 (l0_5.take i))))
 case atStart => exact ⟨0, rfl, Nat.zero_add _, ⟨Below.refl _ _⟩, ⟨Kd.R_nil _ _ _ _ _⟩⟩
 case round =>
  obtain ⟨i, rfl, hik, HB, HO⟩ := hrel
  by_cases hlt : i < l0_5.length
  ·obtain ⟨k1, rfl⟩ : ∃ k1, gk = k1 + 1 := ⟨gk - 1, by omega⟩
   obtain ⟨ad, A0, c0, e5, hx0, hx1, hx2, hx3, hx4, hle, hC⟩ := at_T53 (Kd.C_below hr0_5 HB0.out) (i : Int) (by omega) (by omega)
   subst e5
   obtain ⟨b, hb⟩ : ∃ b, b = rd_T53 l0_5 (i : Int) := ⟨_, rfl⟩
   rw [← hb] at hx0 hx1 hx2 hx3 hx4 hle hC
   simp only [Int.toNat_natCast] at hx0 hx1 hx2 hx3 hx4
   replace hx0 := pw_cell_below HB.out hx0
   replace hx1 := pw_cell_below HB.out hx1
   replace hx2 := pw_cell_below HB.out hx2
   replace hx3 := pw_cell_below HB.out hx3
   replace hx4 := pw_cell_below HB.out hx4
   have hbe : l0_5.take (i + 1) = l0_5.take i ++ [b] := by
    rw [List.take_succ_eq_append_getElem hlt, hb]
    congr 2
    unfold rd_T53
    rw [Int.toNat_natCast, getD_at _ _ hlt]
   have hlst : listed (l0_5.take i) + b.f0.length ≤ listed l0_5 := by
    have h1 := listed_take l0_5 (i + 1)
    rw [hbe] at h1
    simpa [listed] using h1
   have HBE := Aside0.mk hbe; have HLST := Aside0.mk hlst; have HCW := Aside0.mk hC; have HLE := Aside0.mk hle
   clear hb hbe hlst hC hle
   go_wp2
   go_loopg [5, 9, 20] b.f0.length (fun kq v5 v9 v20 wr2 => ∃ (j : Nat), v20 = .int .i64 j ∧ j + kq = b.f0.length ∧ Aside0 (Below W0.heap.size W0 wr2) ∧ Aside0 ((Kd.int .i64).R 3 wr2 W0.heap.size (fun _ => True) v5 (usesTo l0_4 a1 (l0_5.take i) ++ (b.f0.take j).filter (hasArg l0_4 a1))))
   case atStart => exact ⟨0, rfl, Nat.zero_add _, ⟨below_alloc HB.out _⟩, ⟨by rw [List.take_zero, List.filter_nil, List.append_nil]; exact Kd.R_alloc HO.out _⟩⟩
   case round =>
    clear hx0 hx1 hx2 hx3 hx4
    obtain ⟨j, rfl, hjk, HB2, HO2⟩ := hrel
    have hbm := Kd.C_max HCW.out
    by_cases hj : j < b.f0.length
    ·obtain ⟨k2, rfl⟩ : ∃ k2, gk = k2 + 1 := ⟨gk - 1, by omega⟩
     have hCr := Kd.C_below HCW.out HB2.out
     obtain ⟨adx, ex, hxx⟩ := Kd.at_int hCr (j : Int) (by omega) (by omega)
     subst ex
     obtain ⟨x, hx⟩ : ∃ x, x = rd b.f0 (j : Int) := ⟨_, rfl⟩
     rw [← hx, Int.toNat_natCast] at hxx
     have htk : b.f0.take (j + 1) = b.f0.take j ++ [x] := by
      rw [List.take_succ_eq_append_getElem hj, hx]
      congr 2
      unfold rd
      rw [Int.toNat_natCast, getD_at _ _ hj]
     have hno : hasArg l0_4 a1 x = false → (b.f0.take (j + 1)).filter (hasArg l0_4 a1) = (b.f0.take j).filter (hasArg l0_4 a1) := fun e => by rw [htk, List.filter_append, List.filter_cons, if_neg (by rw [e]; simp), List.filter_nil, List.append_nil]
     have hyes : hasArg l0_4 a1 x = true → (b.f0.take (j + 1)).filter (hasArg l0_4 a1) = (b.f0.take j).filter (hasArg l0_4 a1) ++ [x] := fun e => by rw [htk, List.filter_append, List.filter_cons, if_pos e, List.filter_nil]
     have HNO := Aside0.mk hno; have HYES := Aside0.mk hyes
     have h4c := blk_cell (blk_below HBX.out HB2.out) 4
     clear hno hyes htk hx hCr
     have hI4 := Kd.C_below (Kd.C_below hr0_4 HB0.out) HB2.out
     by_cases h1 : 0 ≤ x
     ·have d1 : decide (0 ≤ x) = true := decide_eq_true h1
      by_cases h2 : x < (l0_4.length : Int)
      ·have d2 : decide (x < (l0_4.length : Int)) = true := decide_eq_true h2
       obtain ⟨ady, A2, c2, ey, hy0, hy1, hy2, hy3, hy4, hle2, hC2⟩ := at_T47 hI4 x h1 h2
       subst ey
       obtain ⟨ins, hins⟩ : ∃ ins, ins = rd_T47 l0_4 x := ⟨_, rfl⟩
       rw [← hins] at hy0 hy1 hy2 hy3 hy4 hle2 hC2
       have hv : hasArg l0_4 a1 x = ins.f2.contains a1 := by unfold hasArg; rw [d1, d2, hins]; rfl
       have hcm := contains_is ins.f2 a1 (Kd.C_max hC2)
       have HC2 := Aside0.mk hC2; have HL2 := Aside0.mk hle2
       clear hC2 hle2 hI4 hy0 hy1 hy3 hy4 hins
       cases hq : ins.f2.contains a1 with
       | false =>
        rw [hq] at hv hcm
        have HV := Aside0.mk hv; have HCM := Aside0.mk hcm; clear hv hcm hq
        go_wp2_with (go_at_call 38; refine (slices_Contains_int_int.calls (ins.f2.length + 1) A2 c2 ins.f2 a1 false _ HC2.out HL2.out HCM.out).mono ?_; rintro e w4 ⟨rfl, hd4⟩; have HB4 := Aside0.mk (below_step HB2.out hd4.below); have HO4 := Aside0.mk (Kd.R_below HO2.out hd4.below); clear hd4)
        go_roundg k2
        case measure => omega
        case rel => exact ⟨j + 1, by go_num, by omega, HB4, ⟨by rw [HNO.out HV.out]; exact HO4.out⟩⟩
       | true =>
        rw [hq] at hv hcm
        have HV := Aside0.mk hv; have HCM := Aside0.mk hcm; clear hv hcm hq
        obtain ⟨L, hL⟩ : ∃ L, L = usesTo l0_4 a1 (l0_5.take i) ++ (b.f0.take j).filter (hasArg l0_4 a1) := ⟨_, rfl⟩
        have hll : L.length ≤ 1000000 := by
         have h3 := uses_len l0_4 a1 (l0_5.take i)
         have h4 := List.length_filter_le (hasArg l0_4 a1) (b.f0.take j)
         have h5 := HLST.out
         have h6 := HLS.out
         rw [List.length_take] at h4
         rw [hL, List.length_append]
         omega
        have hnx : usesTo l0_4 a1 (l0_5.take i) ++ (b.f0.take (j + 1)).filter (hasArg l0_4 a1) = L ++ [x] := by rw [HYES.out HV.out, ← List.append_assoc, ← hL]
        rw [← hL] at HO2
        have HLL := Aside0.mk hll; have HNX := Aside0.mk hnx
        clear hll hnx hL HYES HNO
        go_wp2_with (first | (go_at_call 38; refine (slices_Contains_int_int.calls (ins.f2.length + 1) A2 c2 ins.f2 a1 true _ HC2.out HL2.out HCM.out).mono ?_; rintro e w4 ⟨rfl, hd4⟩; have HB4 := Aside0.mk (below_step HB2.out hd4.below); have HO4 := Aside0.mk (Kd.R_below HO2.out hd4.below); clear hd4) | ((with_reducible refine gate_builtin (b := .append) (xs := #[.tmp 43, .tmp 45]) rfl ?_); at_builtin; refine Kd.R_append (Kd.int .i64) (w0 := W0) W0.heap.size rfl (.tmp 43) (.tmp 45) 42 3 (.int .i64 0) 8 rfl Tryd.underlying42 info3 rfl (by decide) (by omega) u5 L x [.int .i64 x] (fun _ => True) (fun _ => False) rfl rfl ?aP (fun _ hk => hk.elim) ?aF ?aO ?aB ?aS ?aL ?_; (case aP => exact rfl); (case aF => exact fun k hk => trivial); (case aO => exact HO4.out); (case aB => exact HB4.out); (case aS => exact HB4.out.size); (case aL => have := HLL.out; omega); intro v1 w5 ho hb hg hat; have HO5 := Aside0.mk ho; have HB5 := Aside0.mk hb; clear ho hb hg hat))
        go_roundg k2
        case measure => omega
        case rel => exact ⟨j + 1, by go_num, by omega, HB5, ⟨by rw [HNX.out]; exact HO5.out⟩⟩
      ·have d2 : decide (x < (l0_4.length : Int)) = false := decide_eq_false h2
       have hv : hasArg l0_4 a1 x = false := by unfold hasArg; rw [d2, Bool.false_and, Bool.and_false]
       have HV := Aside0.mk hv; clear hv hI4
       go_wp2
       go_roundg k2
       case measure => omega
       case rel => exact ⟨j + 1, by go_num, by omega, HB2, ⟨by rw [HNO.out HV.out]; exact HO2.out⟩⟩
     ·have d1 : decide (0 ≤ x) = false := decide_eq_false h1
      have hv : hasArg l0_4 a1 x = false := by unfold hasArg; rw [d1, Bool.false_and]
      have HV := Aside0.mk hv; clear hv hI4
      go_wp2
      go_roundg k2
      case measure => omega
      case rel => exact ⟨j + 1, by go_num, by omega, HB2, ⟨by rw [HNO.out HV.out]; exact HO2.out⟩⟩
    ·have hje : j = b.f0.length := by omega
     have hO3 := HO2.out
     rw [hje, List.take_length, ← uses_snoc, ← HBE.out] at hO3
     have HO3 := Aside0.mk hO3; clear hO3 hje
     go_wp2
     go_roundg k1
     case measure => omega
     case rel => exact ⟨i + 1, by go_num, by omega, HB2, HO3⟩
  ·have hi : i = l0_5.length := by omega
   have hO := HO.out
   rw [hi, List.take_length] at hO
   have HO1 := Aside0.mk hO
   have hlen := uses_len l0_4 a1 l0_5
   have HLN := Aside0.mk hlen
   clear hO hlen
   go_wp2_with fail
   refine (sort_R HO1.out (by have := HLN.out; have := HLS.out; omega)).mono ?_
   rintro e w3 ⟨rfl, hR3, hg3⟩
   have HR3 := Aside0.mk hR3
   have HB3 := Aside0.mk (Below.grown HB.out hg3 HB.out.size (fun k hk => Kd.R_base HO1.out k hk))
   clear hR3 hg3
   go_wp2_with fail
   refine (compact_R HR3.out).mono ?_
   rintro e w4 ⟨v4, rfl, hR4, hg4, hob⟩
   have HR4 := Aside0.mk hR4
   have HB4 := Aside0.mk (Below.grown HB3.out hg4 HB3.out.size (fun k hk => Kd.R_base HR3.out k hk))
   clear hR4 hg4 hob
   go_wp2
   go_ret
   exact ⟨_, rfl, Kd.R_lower HR4.out HB0.out.size, below_step HB0.out HB4.out⟩
def oneF : S40 := ⟨⟨#[102]⟩, [⟨#[105, 110, 116]⟩, ⟨#[105, 110, 116]⟩], ⟨#[105, 110, 116]⟩, [], [⟨20, ⟨#[105, 110, 116]⟩, [], 0, ⟨#[]⟩⟩, ⟨20, ⟨#[105, 110, 116]⟩, [], 1, ⟨#[]⟩⟩, ⟨1, ⟨#[105, 110, 116]⟩, [0, 1], 0, ⟨#[]⟩⟩], [⟨[0, 1, 2], 3, 2, ⟨0, 0⟩⟩]⟩
theorem one_is : truantlaw08_one.f = some (oneF.f0, oneF.f1, oneF.f2, oneF.f3, oneF.f4, oneF.f5) := by kernel_rfl
theorem one_line : ir_Line.f 60 oneF.f0 oneF.f1 oneF.f2 oneF.f3 oneF.f4 oneF.f5 2 = some ⟨#[118, 50, 32, 61, 32, 97, 100, 100, 32, 105, 110, 116, 32, 48, 32, 118, 48, 32, 118, 49]⟩ := by kernel_rfl
def oneLines : List ByteArray := (ir_Lines.f 60 [] [] [oneF]).getD []
theorem one_lines : ir_Lines.f 60 [] [] [oneF] = some oneLines := by kernel_rfl
theorem lines_len : oneLines.length = 6 := by kernel_rfl
theorem lines_0 : rdOf ByteArray.empty oneLines 0 = ⟨#[102, 117, 110, 99, 32, 102, 32, 105, 110, 116, 32, 105, 110, 116, 32, 45, 62, 32, 105, 110, 116]⟩ := by kernel_rfl
theorem lines_5 : rdOf ByteArray.empty oneLines 5 = ⟨#[114, 101, 116, 32, 118, 50]⟩ := by kernel_rfl
theorem one_uses : ir_Uses.f oneF.f0 oneF.f1 oneF.f2 oneF.f3 oneF.f4 oneF.f5 0 = some [2] := by
 have h : usesTo oneF.f4 0 oneF.f5 = [2] := by kernel_rfl
 unfold ir_Uses.f sortC
 rw [if_pos (by decide), h, List.mergeSort_singleton]
 rfl
theorem one_clone : ir_Clone.f 60 [] [] [oneF] = some ([], [], [oneF]) := by kernel_rfl
theorem one_same : ir_Same.f 60 [] [] [oneF] [] [] [oneF] = some true := by kernel_rfl
theorem one_other (x : S40) (h : x ≠ oneF) : ir_Same.f 60 [] [] [oneF] [] [] [x] = some false := by
 have e : eqL eqF [oneF] [x] = false := Bool.eq_false_iff.mpr (fun q => h (by have := (eqL_iff eqF_iff _ _).mp q; injection this with q _; exact q.symm))
 have h1 : ir_Same.f 60 [] [] [oneF] [] [] [x] = some (eqL eqF [oneF] [x]) := rfl
 rw [h1, e]
theorem one_args : ir_Args.f 60 26 = some 2 := by kernel_rfl
theorem one_quiet : ir_IsQuiet.f 60 1 = some true := by kernel_rfl
theorem one_loud : ir_IsQuiet.f 60 25 = some false := by kernel_rfl
/-- A row that is read, from what is read of each element. -/
theorem row_of {α : Type} {d : Kd α} {w w' : World} {A : Option Addr} {n : Nat} {xs : List α} (z : α) (h : d.C w A n xs) (hE : ∀ ad, A = some ad → ∀ (j : Nat) (x : α) (c : List Value), c.length = d.sz → d.K w x c → (∀ i u, c[i]? = some u → w.cell? (ad.add (j * d.sz + i)) = some u) → ∃ x' c', c'.length = d.sz ∧ d.K w' x' c' ∧ ∀ i u, c'[i]? = some u → w'.cell? (ad.add (j * d.sz + i)) = some u) :
  ∃ xs', d.C w' A n xs' := by
 obtain ⟨hl, hm, hn⟩ := h
 rcases Nat.eq_zero_or_pos n with h0 | hp
 ·exact ⟨[], by simpa using h0.symm, hm, fun hp => by omega⟩
 ·obtain ⟨ad, rfl, hx⟩ := hn hp
  have key : ∀ j : Nat, ∃ x' : α, j < xs.length → ∃ c', c'.length = d.sz ∧ d.K w' x' c' ∧ ∀ i u, c'[i]? = some u → w'.cell? (ad.add (j * d.sz + i)) = some u := fun j => by
   by_cases hj : j < xs.length
   ·obtain ⟨c, h1, h2, h3⟩ := hx j _ (List.getElem?_eq_getElem hj)
    obtain ⟨x', c', k⟩ := hE ad rfl j _ c h1 h2 h3
    exact ⟨x', fun _ => ⟨c', k⟩⟩
   ·exact ⟨z, fun k => absurd k hj⟩
  refine ⟨(List.range xs.length).map (fun j => Classical.choose (key j)), by simp [hl], hm, fun _ => ⟨ad, rfl, fun j p hj => ?_⟩⟩
  obtain ⟨hlt, e⟩ := List.getElem?_eq_some_iff.1 hj
  rw [List.length_map, List.length_range] at hlt
  have hs := Classical.choose_spec (key j) hlt
  rw [List.getElem_map, List.getElem_range] at e
  rw [e] at hs
  exact hs
section
variable {w : World} {p : Addr} {u v : Int}
theorem cell_after (hp : w.cell? p = some (.int .i64 u)) {q : Addr} {x : Int} (hq : w.cell? q = some (.int .i64 x)) : ∃ y : Int, (w.setCell p (.int .i64 v)).cell? q = some (.int .i64 y) := by
 by_cases e : p = q
 ·subst e
  exact ⟨v, World.cell?_setCell_same w p _ hp⟩
 ·exact ⟨x, by rw [World.cell?_setCell_other (h := e)]; exact hq⟩
theorem cell_kept (hp : w.cell? p = some (.int .i64 u)) {q : Addr} {x : Value} (hx : ∀ y, x ≠ .int .i64 y) (hq : w.cell? q = some x) : (w.setCell p (.int .i64 v)).cell? q = some x := by
 by_cases e : p = q
 ·subst e
  rw [hp] at hq
  exact absurd (Option.some.inj hq).symm (hx u)
 ·rw [World.cell?_setCell_other (h := e)]; exact hq
theorem ints_after (hp : w.cell? p = some (.int .i64 u)) {A : Option Addr} {n : Nat} {xs : List Int} (h : (Kd.int .i64).C w A n xs) : ∃ xs', (Kd.int .i64).C (w.setCell p (.int .i64 v)) A n xs' :=
 row_of 0 h (fun ad _ j x c hl hk hc => by
  have e : c = [.int .i64 x] := hk
  subst e
  obtain ⟨y, hy⟩ := cell_after (v := v) hp (hc 0 _ rfl)
  refine ⟨y, [.int .i64 y], rfl, rfl, fun i u hu => ?_⟩
  rcases i with _ | i
  ·obtain rfl : Value.int .i64 y = u := by simpa using hu
   exact hy
  ·simp at hu)
theorem texts_after (hp : w.cell? p = some (.int .i64 u)) {A : Option Addr} {n : Nat} {xs : List ByteArray} (h : Kd.string.C w A n xs) : ∃ xs', Kd.string.C (w.setCell p (.int .i64 v)) A n xs' :=
 row_of ByteArray.empty h (fun ad _ j x c hl hk hc => by
  have e : c = [.string x] := hk
  subst e
  refine ⟨x, [.string x], rfl, rfl, fun i u hu => ?_⟩
  rcases i with _ | i
  ·obtain rfl : Value.string x = u := by simpa using hu
   exact cell_kept hp (fun y e => by cases e) (hc 0 _ rfl)
  ·simp at hu)
theorem ins_after (hp : w.cell? p = some (.int .i64 u)) {A : Option Addr} {n : Nat} {xs : List S47} (h : k47.C w A n xs) : ∃ xs', k47.C (w.setCell p (.int .i64 v)) A n xs' :=
 row_of z47 h (fun ad _ j x c hl hk hc => by
  obtain ⟨A2, c2, rfl, h1, h2⟩ := k47_open hk
  obtain ⟨y0, e0⟩ := cell_after (v := v) hp (hc 0 _ rfl)
  obtain ⟨y3, e3⟩ := cell_after (v := v) hp (hc 3 _ rfl)
  have e1 := cell_kept (v := v) hp (fun y e => by cases e) (hc 1 _ rfl)
  have e2 := cell_kept (v := v) hp (fun y e => by cases e) (hc 2 _ rfl)
  have e4 := cell_kept (v := v) hp (fun y e => by cases e) (hc 4 _ rfl)
  obtain ⟨ys, hy⟩ := ints_after (v := v) hp h2
  have hyl : ys.length = x.f2.length := hy.1
  have hk' := k47_mk (w.setCell p (.int .i64 v)) ⟨y0, x.f1, ys, y3, x.f4⟩ (A2 := A2) (c2 := c2) (by simp only; omega) (by simp only; rw [hyl]; exact hy)
  simp only at hk'
  rw [hyl] at hk'
  refine ⟨_, _, rfl, hk', fun i u hu => ?_⟩
  match i, hu with
  | 0, hu => obtain rfl := Option.some.inj hu; exact e0
  | 1, hu => obtain rfl := Option.some.inj hu; exact e1
  | 2, hu => obtain rfl := Option.some.inj hu; exact e2
  | 3, hu => obtain rfl := Option.some.inj hu; exact e3
  | 4, hu => obtain rfl := Option.some.inj hu; exact e4
  | i + 5, hu => simp at hu)
theorem blocks_after (hp : w.cell? p = some (.int .i64 u)) {A : Option Addr} {n : Nat} {xs : List S53} (h : k53.C w A n xs) : ∃ xs', k53.C (w.setCell p (.int .i64 v)) A n xs' :=
 row_of z53 h (fun ad _ j x c hl hk hc => by
  obtain ⟨A0, c0, rfl, h1, h2⟩ := k53_open hk
  obtain ⟨y1, e1⟩ := cell_after (v := v) hp (hc 1 _ rfl)
  obtain ⟨y2, e2⟩ := cell_after (v := v) hp (hc 2 _ rfl)
  obtain ⟨y3, e3⟩ := cell_after (v := v) hp (hc 3 _ rfl)
  obtain ⟨y4, e4⟩ := cell_after (v := v) hp (hc 4 _ rfl)
  have e0 := cell_kept (v := v) hp (fun y e => by cases e) (hc 0 _ rfl)
  obtain ⟨ys, hy⟩ := ints_after (v := v) hp h2
  have hyl : ys.length = x.f0.length := hy.1
  have hk' := k53_mk (w.setCell p (.int .i64 v)) ⟨ys, y1, y2, ⟨y3, y4⟩⟩ (A0 := A0) (c0 := c0) (by simp only; omega) (by simp only; rw [hyl]; exact hy)
  simp only at hk'
  rw [hyl] at hk'
  refine ⟨_, _, rfl, hk', fun i u hu => ?_⟩
  match i, hu with
  | 0, hu => obtain rfl := Option.some.inj hu; exact e0
  | 1, hu => obtain rfl := Option.some.inj hu; exact e1
  | 2, hu => obtain rfl := Option.some.inj hu; exact e2
  | 3, hu => obtain rfl := Option.some.inj hu; exact e3
  | 4, hu => obtain rfl := Option.some.inj hu; exact e4
  | i + 5, hu => simp at hu)
theorem funs_after (hp : w.cell? p = some (.int .i64 u)) {A : Option Addr} {n : Nat} {xs : List S40} (h : k40.C w A n xs) : ∃ xs', k40.C (w.setCell p (.int .i64 v)) A n xs' :=
 row_of z40 h (fun ad _ j x c hl hk hc => by
  obtain ⟨A1, c1, A3, c3, A4, c4, A5, c5, rfl, l1, g1, l3, g3, l4, g4, l5, g5⟩ := k40_open hk
  have e0 := cell_kept (v := v) hp (fun y e => by cases e) (hc 0 _ rfl)
  have e1 := cell_kept (v := v) hp (fun y e => by cases e) (hc 1 _ rfl)
  have e2 := cell_kept (v := v) hp (fun y e => by cases e) (hc 2 _ rfl)
  have e3 := cell_kept (v := v) hp (fun y e => by cases e) (hc 3 _ rfl)
  have e4 := cell_kept (v := v) hp (fun y e => by cases e) (hc 4 _ rfl)
  have e5 := cell_kept (v := v) hp (fun y e => by cases e) (hc 5 _ rfl)
  obtain ⟨y1, t1⟩ := texts_after (v := v) hp g1
  obtain ⟨y3, t3⟩ := texts_after (v := v) hp g3
  obtain ⟨y4, t4⟩ := ins_after (v := v) hp g4
  obtain ⟨y5, t5⟩ := blocks_after (v := v) hp g5
  have n1 : y1.length = x.f1.length := t1.1
  have n3 : y3.length = x.f3.length := t3.1
  have n4 : y4.length = x.f4.length := t4.1
  have n5 : y5.length = x.f5.length := t5.1
  have hk' := k40_mk (w.setCell p (.int .i64 v)) ⟨x.f0, y1, x.f2, y3, y4, y5⟩ (A1 := A1) (c1 := c1) (A3 := A3) (c3 := c3) (A4 := A4) (c4 := c4) (A5 := A5) (c5 := c5) (by simp only; omega) (by simp only; rw [n1]; exact t1) (by simp only; omega) (by simp only; rw [n3]; exact t3) (by simp only; omega) (by simp only; rw [n4]; exact t4) (by simp only; omega) (by simp only; rw [n5]; exact t5)
  simp only at hk'
  rw [n1, n3, n4, n5] at hk'
  refine ⟨_, _, rfl, hk', fun i u hu => ?_⟩
  match i, hu with
  | 0, hu => obtain rfl := Option.some.inj hu; exact e0
  | 1, hu => obtain rfl := Option.some.inj hu; exact e1
  | 2, hu => obtain rfl := Option.some.inj hu; exact e2
  | 3, hu => obtain rfl := Option.some.inj hu; exact e3
  | 4, hu => obtain rfl := Option.some.inj hu; exact e4
  | 5, hu => obtain rfl := Option.some.inj hu; exact e5
  | i + 6, hu => simp at hu)
end
end Go.Proofs.YtkiiojgaaoaipaaDoor.Q
