/- What the row of HeapExact rests on, part 2: contracts of the functions that it reaches, and the plain law. -/
import Derived.Test.YtonmlncejikbiaaJHeapExact1
/- A heap's Clone: by hand; its drawn region is written by wip/tool/genA.py. -/
namespace Go.Proofs.Ytonmlncejikbiaa.Q
open Go.RowKit Go.Proofs.YtonmlncejikbiaaW.PrintWords Go.Proofs.YtonmlncejikbiaaW.PrintLast Go.Proofs.YtonmlncejikbiaaW.PrintMore
set_option linter.unusedVariables false
set_option linter.unusedSimpArgs false
def heap_Clone.T7 : Bool × List (List Nat × List Nat) := (true, [([], []), ([], []), ([1], [1]), ([2], [2]), ([3], [3]), ([], []), ([5], [5]), ([], []), ([7], [7]), ([8], [8]), ([6, 9], [6, 9]), ([10], [10]), ([4, 11, 9], [4, 11]), ([0, 0, 1, 2, 3, 4, 5, 6, 7, 8, 9, 10, 11, 12], [0]), ([13, 0, 1, 2, 3, 4, 5, 6, 7, 8, 9, 10, 11, 12], [13]), ([14, 12, 12, 0, 1, 2, 3, 4, 5, 6, 7, 8, 9, 10, 11, 12], [12, 14])])
def heap_Clone.B7 : List Nat := [0, 0, 2, 6, 14, 0, 32, 0, 128, 384, 992, 2016, 4094, 8191, 16383, 32767]
theorem heap_Clone.tab7 : rtab .any (opsOf Try.f42 7) = heap_Clone.T7 := by kernel_rfl
theorem heap_Clone.bits7 : waitsOk heap_Clone.T7.2 heap_Clone.B7 = true := by kernel_rfl
set_option maxRecDepth 100000 in
set_option maxHeartbeats 2000000 in
theorem heap_Clone.nil (w : World) : Calls Try.prog 42 #[.pointer none] w fun e w' => e = .returned (.pointer none) ∧ Below w.heap.size w w' := by
 go_enter Try.func42, Try.ntmps42
 go_wp2
 go_ret
 exact ⟨rfl, Below.refl _ _⟩
set_option maxRecDepth 100000 in
set_option maxHeartbeats 8000000 in
theorem heap_Clone.calls {base g : Nat} {w : World} {sv lv : Value} {S : List S43} {L : List (Int × List Int)} {sok lok : Nat → Prop} (h : HP w base g sv lv S L sok lok) (hL : L.length ≤ 1000000) (hO : ∀ x ∈ L, x.2.length ≤ 1000000) :
  Calls Try.prog 42 #[ptr g] w fun e w' => ∃ g' lv' lok', e = .returned (ptr g') ∧ HP w' w.heap.size g' sv lv' S L sok lok' ∧ Below w.heap.size w w' := by
 obtain ⟨Al, cl, rfl, hcl, hm⟩ := h.list
 obtain ⟨As, cs, rfl, _, _⟩ := h.structs
 obtain ⟨c0, c1, _, _⟩ := bk2 h.blk
 have H := Aside0.mk h; have HO := Aside0.mk hO
 clear h hO
 go_enter Try.func42, Try.ntmps42
 go_upto_region 4 with (fail)
 have HG : Aside0 ((w.alloc (.cells #[.slice As S.length cs, .slice none 0 0] 116)).heap[w.heap.size]? = some (.cells #[.slice As S.length cs, .slice none 0 0] 116 (0, 0))) := ⟨blk_new _ _⟩
 have HB1 : Aside0 (Below w.heap.size w (w.alloc (.cells #[.slice As S.length cs, .slice none 0 0] 116))) := ⟨below_alloc (Below.refl _ _) _⟩
 generalize w.alloc (.cells #[.slice As S.length cs, .slice none 0 0] 116) = w2 at HG HB1 ⊢
 obtain ⟨gh, hgh⟩ : ∃ gh, gh = w.heap.size := ⟨_, rfl⟩
 have HGE : Aside0 (w.heap.size ≤ gh) := ⟨by omega⟩
 have HNS : Aside0 (∀ k, sok k → k ≠ gh) := ⟨fun k hk e => by have := (H.out.sap k hk).2.2; omega⟩
 rw [← hgh] at HG ⊢
 clear hgh c0 c1
 obtain ⟨c0, c1, _, _⟩ := bk2 (H.out.below HB1.out).blk
 go_wp2_with fail
 clear c0 c1
 go_loopw [19] (fun v19 wr => ∃ (i : Nat) (v : Value), v19 = .int .i64 i ∧ i ≤ L.length ∧ Aside0 (Below w.heap.size w wr) ∧ Aside0 (wr.heap[gh]? = some (.cells #[.slice As S.length cs, v] 116 (0, 0))) ∧ Aside0 (Kd.S kOb 119 wr w.heap.size (fun k => k ≠ gh) v (L.take i))) (fun v19 _ => L.length - (intOf v19).toNat)
 case atStart => exact ⟨0, .slice none 0 0, rfl, Nat.zero_le _, HB1, HG, ⟨by rw [List.take_zero]; exact Kd.S_nil _ _ _ _ _⟩⟩
 case round =>
  clear HB1 HG
  obtain ⟨i, v, rfl, hi, HB, HG, HS⟩ := hrel
  by_cases hlt : i < L.length
  ·obtain ⟨ad, _, B1, d1, e1, _, hx0, hx1, hl1, hi1⟩ := (H.out.below HB.out).elem (i : Int) (by omega) (by omega)
   cases e1
   simp only [Int.toNat_natCast] at hx0 hx1
   obtain ⟨x, ex⟩ : ∃ x, x = rdO L (i : Int) := ⟨_, rfl⟩
   rw [← ex] at hx0 hx1 hl1 hi1
   have hexg : L.take (i + 1) = L.take i ++ [x] := by
    rw [take_next L (0, []) hlt, ex]; rfl
   obtain ⟨Lj, hLj⟩ : ∃ Lj, Lj = L.take (i + 1) := ⟨_, rfl⟩
   obtain ⟨Li, hLi⟩ : ∃ Li, Li = L.take i := ⟨_, rfl⟩
   rw [← hLj, ← hLi] at hexg
   have htl : Li.length ≤ 1000000 := by rw [hLi, List.length_take]; omega
   have HTL := Aside0.mk htl
   rw [← hLi] at HS
   have HEX := Aside0.mk hexg; have HLJ := Aside0.mk hLj
   clear hLj hLi htl
   have hmem : x.2.length ≤ 1000000 := HO.out x (by
    rw [ex]; unfold rdO
    rw [Int.toNat_natCast, getD_at _ _ hlt]
    exact List.getElem_mem hlt)
   have HMEM := Aside0.mk hmem
   have HI := Aside0.mk hi1
   have HL1 := Aside0.mk hl1
   clear ex hexg hmem hi1 hl1
   obtain ⟨Av, cv, ev⟩ := Kd.S_slice HS.out
   subst ev
   go_upto_region 7 with (fail)
   have HL2 : Aside0 ((wr.alloc (.cells #[.int .i64 x.1, .slice B1 x.2.length d1] 119)).heap[wr.heap.size]? = some (.cells #[.int .i64 x.1, .slice B1 x.2.length d1] 119 (0, 0))) := ⟨blk_new _ _⟩
   have HBA : Aside0 (Below wr.heap.size wr (wr.alloc (.cells #[.int .i64 x.1, .slice B1 x.2.length d1] 119))) := ⟨below_alloc (Below.refl _ _) _⟩
   clear hx0 hx1
   generalize wr.alloc (.cells #[.int .i64 x.1, .slice B1 x.2.length d1] 119) = wa at HL2 HBA ⊢
   have HVB : Aside0 (∀ k, (Value.slice Av Li.length cv).ownBlock = some k → k < wr.heap.size) := ⟨Kd.S_lt HS.out⟩
   have HB2 := Aside0.mk (below_drew1 (below_step HB.out HBA.out))
   have HG2 := Aside0.mk (blk_drew (blk_below HG.out HBA.out))
   have HS2 := Aside0.mk (Kd.S_drew (Kd.S_below HS.out HBA.out))
   have HI2 := Aside0.mk (Kd.C_drew (Kd.C_below HI.out HBA.out))
   have HL3 := Aside0.mk (blk_drew HL2.out)
   clear HB HG HS HI HL2 HBA
   generalize wr.heap.size = bs at HL3 HVB ⊢
   refine start_ (n := 16) (S := fun w' => w'.heap[gh]? = some (.cells #[.slice As S.length cs, .slice Av Li.length cv] 116 (0, 0)) ∧ w'.heap[bs]? = some (.cells #[.int .i64 x.1, .slice B1 x.2.length d1] 119 (0, 0))) (ds := [15]) (tf 0 16) (by kernel_rfl) rfl rfl ⟨HG2.out, HL3.out⟩ (fun hHeld => ?_)
   refine with_tabW heap_Clone.tab7 heap_Clone.bits7 (fun HT_ HW_ => ?_)
   generalize wa.drew = w3 at HB2 HG2 HS2 HI2 HL3 hHeld ⊢
   refine pure_ (i := 0) (N := some 23) (v := ?_) (a' := ?_) (tf 1 15) rfl rfl (any_of HT_.out (by kernel_rfl)) (fun _ _ _ h => h) (Or.inl ⟨by rfl, ?_⟩) ?_ ?_
   rotate_left
   ·intro w'
    go_simp
    with_reducible rfl
   rotate_left
   ·simp only [Act.put, List.setIfInBounds_toArray, List.set_cons_zero, List.set_cons_succ, i64_w, i32_w]
    rfl
   refine pure_ (i := 1) (N := some 24) (v := ?_) (a' := ?_) (tf 2 14) rfl rfl (any_of HT_.out (by kernel_rfl)) (fun _ _ _ h => h) (Or.inl ⟨by rfl, ?_⟩) ?_ ?_
   rotate_left
   ·intro w'
    go_simp
    with_reducible rfl
   rotate_left
   ·simp only [Act.put, List.setIfInBounds_toArray, List.set_cons_zero, List.set_cons_succ, i64_w, i32_w]
    rfl
   refine pure_ (i := 2) (N := some 25) (v := ?_) (a' := ?_) (tf 3 13) rfl rfl (any_of HT_.out (by kernel_rfl)) (fun _ _ _ h => h) (Or.inl ⟨by rfl, ?_⟩) ?_ ?_
   rotate_left
   ·intro w'
    go_simp
    with_reducible rfl
   rotate_left
   ·simp only [Act.put, List.setIfInBounds_toArray, List.set_cons_zero, List.set_cons_succ, i64_w, i32_w]
    rfl
   refine pure_ (i := 3) (N := some 26) (v := ?_) (a' := ?_) (tf 4 12) rfl rfl (any_of HT_.out (by kernel_rfl)) (fun _ _ _ h => h) (Or.inl ⟨by rfl, ?_⟩) ?_ ?_
   rotate_left
   ·intro w'
    go_simp
    with_reducible rfl
   rotate_left
   ·simp only [Act.put, List.setIfInBounds_toArray, List.set_cons_zero, List.set_cons_succ, i64_w, i32_w]
    rfl
   refine pure_ (i := 5) (N := some 28) (v := ?_) (a' := ?_) #[true, true, true, true, false, true, false, false, false, false, false, false, false, false, false, false] rfl rfl (any_of HT_.out (by kernel_rfl)) (fun _ _ _ h => h) (Or.inl ⟨by rfl, ?_⟩) ?_ ?_
   rotate_left
   ·intro w'
    go_simp
    with_reducible rfl
   rotate_left
   ·simp only [Act.put, List.setIfInBounds_toArray, List.set_cons_zero, List.set_cons_succ, i64_w, i32_w]
    rfl
   refine pure_ (i := 7) (N := some 30) (v := ?_) (a' := ?_) #[true, true, true, true, false, true, false, true, false, false, false, false, false, false, false, false] rfl rfl (any_of HT_.out (by kernel_rfl)) (fun _ _ _ h => h) (Or.inl ⟨by rfl, ?_⟩) ?_ ?_
   rotate_left
   ·intro w'
    go_simp
    with_reducible rfl
   rotate_left
   ·simp only [Act.put, List.setIfInBounds_toArray, List.set_cons_zero, List.set_cons_succ, i64_w, i32_w]
    rfl
   refine take_ (i := 4) (N := some 27) (v := ?_) (a' := ?_) #[true, true, true, true, true, true, false, true, false, false, false, false, false, false, false, false] rfl rfl (take_ofW HT_.out HW_.out (by kernel_rfl)) (fun _ _ _ h => h) (Or.inl ⟨by rfl, ?_⟩) hHeld ?_ ?_
   rotate_left
   ·rintro w' ⟨s0, s1⟩
    obtain ⟨c0, c1, _, _⟩ := bk2 s0
    obtain ⟨b0, b1, _, _⟩ := bk2 s1
    go_simp
    with_reducible rfl
   rotate_left
   ·simp only [Act.put, List.setIfInBounds_toArray, List.set_cons_zero, List.set_cons_succ, i64_w, i32_w]
    rfl
   refine take_ (i := 6) (N := some 29) (v := ?_) (a' := ?_) (tf 8 8) rfl rfl (take_ofW HT_.out HW_.out (by kernel_rfl)) (fun _ _ _ h => h) (Or.inl ⟨by rfl, ?_⟩) hHeld ?_ ?_
   rotate_left
   ·rintro w' ⟨s0, s1⟩
    obtain ⟨c0, c1, _, _⟩ := bk2 s0
    obtain ⟨b0, b1, _, _⟩ := bk2 s1
    go_simp
    with_reducible rfl
   rotate_left
   ·simp only [Act.put, List.setIfInBounds_toArray, List.set_cons_zero, List.set_cons_succ, i64_w, i32_w]
    rfl
   refine take_ (i := 8) (N := some 31) (v := ?_) (a' := ?_) (tf 9 7) rfl rfl (take_ofW HT_.out HW_.out (by kernel_rfl)) (fun _ _ _ h => h) (Or.inl ⟨by rfl, ?_⟩) hHeld ?_ ?_
   rotate_left
   ·rintro w' ⟨s0, s1⟩
    obtain ⟨c0, c1, _, _⟩ := bk2 s0
    obtain ⟨b0, b1, _, _⟩ := bk2 s1
    go_simp
    with_reducible rfl
   rotate_left
   ·simp only [Act.put, List.setIfInBounds_toArray, List.set_cons_zero, List.set_cons_succ, i64_w, i32_w]
    rfl
   refine one_ (i := 9) (N := some 32) (tf 10 6) rfl rfl (one_of HT_.out (by kernel_rfl)) (by decide) (fun K hK => ?_)
   refine goes_ Try.func82 (by kernel_rfl) rfl #[.slice B1 x.2.length d1] (by rfl) rfl rfl (by simp only [List.map_toArray, List.map_cons, List.map_nil]; rfl) ?_
   refine (slices_Clone_int_int.calls B1 d1 x.2 x.2 w3 HI2.out HL1.out (if_pos HMEM.out)).mono ?_
   rintro e w4 ⟨v4, rfl, hr4, hb4⟩
   refine ⟨_, rfl, ?_⟩
   obtain ⟨A4, c4, e4⟩ := Kd.R_slice hr4
   subst e4
   have HR4 := Aside0.mk hr4
   have HG4 := Aside0.mk (blkB hHeld.1 hb4)
   have HL4 := Aside0.mk (blkB hHeld.2 hb4)
   have HB4 := Aside0.mk (below_step HB2.out hb4)
   have HB34 := Aside0.mk hb4
   have HS4 := Aside0.mk (Kd.S_below (Kd.S_bound HS2.out) hb4)
   clear hr4
   refine hK.out _ _ ⟨(blkB hHeld.1 hb4), (blkB hHeld.2 hb4)⟩ (fun hHeld => ?_)
   clear hK K
   refine norm_ (a' := ?_) ?_ ?_
   rotate_left
   ·show Act.put _ (some 32) _ = _
    simp only [Act.put, List.setIfInBounds_toArray, List.set_cons_zero, List.set_cons_succ, i64_w, i32_w]
    rfl
   refine pure_ (i := 10) (N := some 33) (v := ?_) (a' := ?_) (tf 11 5) rfl rfl (any_of HT_.out (by kernel_rfl)) (fun _ _ _ h => h) (Or.inl ⟨by rfl, ?_⟩) ?_ ?_
   rotate_left
   ·intro w'
    go_simp
    with_reducible rfl
   rotate_left
   ·simp only [Act.put, List.setIfInBounds_toArray, List.set_cons_zero, List.set_cons_succ, i64_w, i32_w]
    rfl
   refine one_ (i := 11) (N := some 34) (tf 12 4) rfl rfl (one_of HT_.out (by kernel_rfl)) (by decide) (fun K hK => ?_)
   refine value_ (w1 := ?_) (v := ?_) (by rfl) rfl ?_ ?_
   rotate_left 2
   ·go_simp
    constructor
    ·rfl
    ·rfl
   refine hK.out _ _ ⟨(blk_alloc hHeld.1 _), (blk_alloc hHeld.2 _)⟩ (fun hHeld => ?_)
   clear hK K
   refine norm_ (a' := ?_) ?_ ?_
   rotate_left
   ·show Act.put _ (some 34) _ = _
    simp only [Act.put, List.setIfInBounds_toArray, List.set_cons_zero, List.set_cons_succ, i64_w, i32_w]
    rfl
   refine one_ (i := 12) (N := some 35) (tf 13 3) rfl rfl (one_of HT_.out (by kernel_rfl)) (by decide) (fun K hK => ?_)
   refine Kd.S_append_step kOb (w0 := w4) w.heap.size (by rfl) (.tmp 27) (.tmp 34) 114 119 (.agg #[.int .i64 0, .slice none 0 0]) 32 rfl Try.underlying114 infoOb rfl (by decide) (by decide) (.slice Av Li.length cv) Li x [.int .i64 x.1, .slice A4 x.2.length c4] (fun k => k ≠ gh) (fun k => some k = (Value.slice A4 x.2.length c4).ownBlock) rfl rfl ?aP ?aK ?aF ?aO (Below.refl _ _) ?aS ?aL ?_
   case aP => exact kOb_mkM _ _ _ x (Kd.R_tight rfl (Kd.R_lower HR4.out HB2.out.size))
   case aK =>
    exact fun k hk => by
     have hge := Kd.R_base HR4.out k hk.symm
     have h3 := blk_lt HG2.out
     refine ⟨fun e => by omega, fun e => ?_⟩
     have := Kd.S_lt HS2.out k e.symm
     omega
   case aF =>
    exact fun k hk => by
     have h3 := blk_lt HG2.out
     have := HB34.out.size
     omega
   case aO =>
    exact Kd.S_mono HS4.out (fun k hk => ⟨hk.1, fun e => by have := Kd.R_base HR4.out k e.symm; have := hk.2.2.1; omega⟩)
   case aS => exact HB4.out.size
   case aL => have := HTL.out; omega
   intro v6 w6 ho6 hb6 hg6 _
   rw [← HEX.out] at ho6
   obtain ⟨A6, c6, e6⟩ := Kd.S_slice ho6
   subst e6
   have HS6 := Aside0.mk ho6
   have hng : some gh ≠ (Value.slice Av Li.length cv).ownBlock := fun e => HS2.out.choose_spec.1 gh e.symm rfl
   have hnb : some bs ≠ (Value.slice Av Li.length cv).ownBlock := fun e => by have := HVB.out bs e.symm; omega
   have HB6 : Aside0 (Below w.heap.size w w6) := ⟨HB4.out.grown hg6 HB4.out.size (fun k hk => Kd.S_base HS2.out k hk)⟩
   clear ho6 hb6
   refine hK.out _ _ ⟨(blkG HG4.out hg6 hng), (blkG HL4.out hg6 hnb)⟩ (fun hHeld => ?_)
   clear hK K
   refine norm_ (a' := ?_) ?_ ?_
   rotate_left
   ·show Act.put _ (some 35) _ = _
    simp only [Act.put, List.setIfInBounds_toArray, List.set_cons_zero, List.set_cons_succ, i64_w, i32_w]
    rfl
   refine pure_ (i := 13) (N := some 36) (v := ?_) (a' := ?_) (tf 14 2) rfl rfl (any_of HT_.out (by kernel_rfl)) (fun _ _ _ h => h) (Or.inl ⟨by rfl, ?_⟩) ?_ ?_
   rotate_left
   ·intro w'
    go_simp
    with_reducible rfl
   rotate_left
   ·simp only [Act.put, List.setIfInBounds_toArray, List.set_cons_zero, List.set_cons_succ, i64_w, i32_w]
    rfl
   refine pure_ (i := 14) (N := some 37) (v := ?_) (a' := ?_) (tf 15 1) rfl rfl (any_of HT_.out (by kernel_rfl)) (fun _ _ _ h => h) (Or.inl ⟨by rfl, ?_⟩) ?_ ?_
   rotate_left
   ·intro w'
    go_simp
    with_reducible rfl
   rotate_left
   ·simp only [Act.put, List.setIfInBounds_toArray, List.set_cons_zero, List.set_cons_succ, i64_w, i32_w]
    rfl
   refine last_ (i := 15) (N := none) (tf 16 0) rfl rfl (one_of HT_.out (by kernel_rfl)) (by decide) (fun K hK => ?_)
   obtain ⟨y0, y1, z0, z1⟩ := bk2 hHeld.1
   have HG6 := Aside0.mk hHeld.1
   refine skip_ (w1 := ?_) (by rfl) rfl ?_ ?_
   rotate_left
   ·go_simp
    rfl
   refine hK.out _ _ ?_
   clear hK K
   refine done_ (done_of HT_.out (by kernel_rfl)) ?_
   have HG9 : Aside0 ((w6.setCell ⟨gh, 1, none⟩ (.slice A6 Lj.length c6)).heap[gh]? = some (.cells #[.slice As S.length cs, .slice A6 Lj.length c6] 116 (0, 0))) := ⟨blk_put HG6.out 1 _ rfl⟩
   have HS9 := Aside0.mk (Kd.S_far HS6.out (p := ⟨gh, 1, none⟩) (fun k hk => hk) (.slice A6 Lj.length c6))
   have HB9 := Aside0.mk (below_set (g := gh) (j := 1) (v := .slice A6 Lj.length c6) HB6.out HGE.out)
   clear HG6 HS6 HB6
   generalize w6.setCell ⟨gh, 1, none⟩ (.slice A6 Lj.length c6) = w9 at HG9 HS9 HB9 ⊢
   go_wp2
   go_roundw
   case rel => exact ⟨i + 1, _, by go_num, by omega, HB9, HG9, ⟨by rw [← HLJ.out]; exact HS9.out⟩⟩
   case measure => simp [intOf]; omega
  ·have hie : i = L.length := by omega
   have hS := HS.out
   rw [hie, List.take_length] at hS
   have HS3 := Aside0.mk hS
   have H3 := Aside0.mk (H.out.below HB.out)
   clear hS hie HS
   go_wp2
   go_ret
   exact ⟨gh, v, fun k => k ≠ gh ∧ w.heap.size ≤ k ∧ k < wr.heap.size, rfl, ⟨HG.out, HGE.out, H3.out.sts, Kd.S_mono (Kd.S_bound HS3.out) (fun k hk => ⟨hk.1, hk.2.1, hk.2.2.1⟩), fun k hk => ⟨HNS.out k hk, fun h_ => by have := (H.out.sap k hk).2.2; omega, (H3.out.sap k hk).2.2⟩, fun k hk => hk⟩, HB.out⟩
theorem setO_len (L : List (Int × List Int)) (o f n : Int) : (setO L o f n).length = L.length := by
 unfold setO
 split
 ·rw [List.length_set]
 ·rfl
theorem mkL_len {S : List S43} (L : List (Int × List Int)) (nm : ByteArray) : (mkL S L nm).length ≤ L.length + 1 := by
 unfold mkL
 split <;> simp
/-- How many are not seen yet. -/
def unseen (U out : List Int) : Nat := (U.filter fun x => !out.contains x).length
theorem unseen_le (U out : List Int) : unseen U out ≤ U.length := List.length_filter_le _ _
theorem unseen_mono (x : Int) (out : List Int) : ∀ U, unseen U (out ++ [x]) ≤ unseen U out
 | [] => Nat.le_refl _
 | a :: U => by
  have ih := unseen_mono x out U
  unfold unseen at ih ⊢
  by_cases h1 : out.contains a = true
  ·have h2 : (out ++ [x]).contains a = true := by rw [List.contains_iff_mem] at h1 ⊢; exact List.mem_append_left _ h1
   rw [List.filter_cons_of_neg (p := fun x => !out.contains x) (by rw [h1]; decide), List.filter_cons_of_neg (p := fun y => !(out ++ [x]).contains y) (by rw [h2]; decide)]
   exact ih
  ·have h1' : out.contains a = false := by simpa using h1
   rw [List.filter_cons_of_pos (p := fun x => !out.contains x) (by rw [h1']; rfl)]
   by_cases h2 : (out ++ [x]).contains a = true
   ·rw [List.filter_cons_of_neg (p := fun y => !(out ++ [x]).contains y) (by rw [h2]; decide), List.length_cons]; omega
   ·have h2' : (out ++ [x]).contains a = false := by simpa using h2
    rw [List.filter_cons_of_pos (p := fun y => !(out ++ [x]).contains y) (by rw [h2']; rfl), List.length_cons, List.length_cons]; omega
theorem unseen_lt (x : Int) (out : List Int) (hx : out.contains x = false) : ∀ U, x ∈ U → unseen U (out ++ [x]) + 1 ≤ unseen U out
 | [], h => by cases h
 | a :: U, h => by
  by_cases e : a = x
  ·subst e
   have h2 : (out ++ [a]).contains a = true := by rw [List.contains_iff_mem]; simp
   have h3 := unseen_mono a out U
   unfold unseen at h3 ⊢
   rw [List.filter_cons_of_pos (p := fun x => !out.contains x) (by rw [hx]; rfl), List.filter_cons_of_neg (p := fun y => !(out ++ [a]).contains y) (by rw [h2]; decide), List.length_cons]
   omega
  ·have hU : x ∈ U := by
    rcases List.mem_cons.mp h with h | h
    ·exact absurd h.symm e
    ·exact h
   have ih := unseen_lt x out hx U hU
   unfold unseen at ih ⊢
   by_cases h1 : out.contains a = true
   ·have h2 : (out ++ [x]).contains a = true := by rw [List.contains_iff_mem] at h1 ⊢; exact List.mem_append_left _ h1
    rw [List.filter_cons_of_neg (p := fun x => !out.contains x) (by rw [h1]; decide), List.filter_cons_of_neg (p := fun y => !(out ++ [x]).contains y) (by rw [h2]; decide)]
    exact ih
   ·have h1' : out.contains a = false := by simpa using h1
    have h2' : (out ++ [x]).contains a = false := by
     rw [← Bool.not_eq_true, List.contains_iff_mem] at h1' ⊢
     intro q
     rcases List.mem_append.mp q with q | q
     ·exact h1' q
     ·exact e (List.mem_singleton.mp q)
    rw [List.filter_cons_of_pos (p := fun x => !out.contains x) (by rw [h1']; rfl), List.filter_cons_of_pos (p := fun y => !(out ++ [x]).contains y) (by rw [h2']; rfl), List.length_cons, List.length_cons]
    omega
theorem todo_split (todo : List Int) (t : Nat) (h : todo.length = t + 1) : todo = todo.take t ++ [rd todo (t : Int)] := by
 have h1 : todo.take (t + 1) = todo := List.take_of_length_le (by omega)
 rw [← h1]
 conv => lhs; rw [take_nextI todo 0 (by omega)]
 rw [h1]
 rfl
structure Net (isF : Int → Bool) (near : Int → List Int) (U : List Int) (B : Nat) : Prop where
 univ : ∀ x, isF x = true → x ∈ U
 near : ∀ x, isF x = true → (near x).length ≤ B ∧ ∀ y ∈ near x, isF y = true
/-- What the stack comes to. -/
structure Came (isF : Int → Bool) (near : Int → List Int) (todo out r : List Int) : Prop where
 had : ∀ x ∈ out, x ∈ r
 root : ∀ x ∈ todo, isF x = true → x ∈ r
 shut : (∀ x ∈ out, ∀ y ∈ near x, y ∈ out ∨ y ∈ todo) → ∀ x ∈ r, ∀ y ∈ near x, y ∈ r
 is : ∀ x ∈ r, isF x = true
 nodup : r.Nodup
 led : ∀ x ∈ r, x ∈ out ∨ x ∈ todo ∨ ∃ z ∈ r, x ∈ near z
 least : ∀ T : Int → Prop, (∀ x ∈ out, T x) → (∀ x ∈ todo, isF x = true → T x) → (∀ x, T x → isF x = true → ∀ y ∈ near x, T y) → ∀ x ∈ r, T x
 len : r.length ≤ 1000000000
theorem reach_run {isF : Int → Bool} {near : Int → List Int} {U : List Int} {B : Nat} (h : Net isF near U B) : ∀ (m : Nat) (todo out : List Int), unseen U out * (B + 1) + todo.length ≤ m → m + B ≤ 1000000000 → out.length + unseen U out ≤ 1000000000 → (∀ x ∈ out, isF x = true) → out.Nodup →
  ∃ r, (∀ k, m < k → reachQ isF (fun x => some (near x)) k todo out = some r) ∧ Came isF near todo out r := by
 intro m
 induction m with
 | zero =>
  intro todo out hm _ hl hi hn
  have h0 : todo = [] := List.eq_nil_of_length_eq_zero (by omega)
  subst h0
  refine ⟨out, fun k hk => ?_, ⟨fun x hx => hx, fun x hx => absurd hx (by simp), fun hs x hx y hy => (hs x hx y hy).resolve_right (by simp), hi, hn, fun x hx => .inl hx, fun T h1 _ _ x hx => h1 x hx, by omega⟩⟩
  obtain ⟨k, rfl⟩ : ∃ q, k = q + 1 := ⟨k - 1, by omega⟩
  unfold reachQ
  rw [if_neg (by simp)]
 | succ m ih =>
  intro todo out hm hM hl hi hn
  by_cases hp : 0 < todo.length
  ·obtain ⟨t, ht⟩ : ∃ t, todo.length = t + 1 := ⟨todo.length - 1, by omega⟩
   have hsp := todo_split todo t ht
   obtain ⟨x, hx⟩ : ∃ x, x = rd todo (t : Int) := ⟨_, rfl⟩
   obtain ⟨tk, htk⟩ : ∃ tk, tk = todo.take t := ⟨_, rfl⟩
   have htl : tk.length = t := by rw [htk, List.length_take]; omega
   rw [← hx, ← htk] at hsp
   have et : todo.length - 1 = t := by omega
   have hmem : ∀ y, y ∈ todo ↔ y ∈ tk ∨ y = x := fun y => by rw [hsp, List.mem_append, List.mem_singleton]
   by_cases hc : isF x = true ∧ out.contains x = false
   ·obtain ⟨hns, hnF⟩ := h.near x hc.1
    have hxo : x ∉ out := by
     intro q
     have := hc.2
     rw [← Bool.not_eq_true, List.contains_iff_mem] at this
     exact this q
    have hu := unseen_lt x out hc.2 U (h.univ x hc.1)
    have hmul : unseen U (out ++ [x]) * (B + 1) + (B + 1) ≤ unseen U out * (B + 1) := by
     have := Nat.mul_le_mul_right (B + 1) hu
     rw [Nat.add_mul, Nat.one_mul] at this
     exact this
    obtain ⟨r, hr, cr⟩ := ih (tk ++ near x) (out ++ [x]) (by rw [List.length_append]; omega) (by omega) (by rw [List.length_append, List.length_singleton]; omega) (fun y hy => by
     rcases List.mem_append.mp hy with hy | hy
     ·exact hi y hy
     ·rw [List.mem_singleton.mp hy]; exact hc.1) (List.nodup_append.mpr ⟨hn, by simp, fun a ha b hb e => hxo (by rw [List.mem_singleton] at hb; rw [← hb, ← e]; exact ha)⟩)
    refine ⟨r, fun k hk => ?_, ⟨fun y hy => cr.had y (List.mem_append_left _ hy), fun y hy hF => ?_, fun hs => ?_, cr.is, cr.nodup, fun y hy => ?_, fun T h1 h2 h3 => ?_, cr.len⟩⟩
    ·obtain ⟨k, rfl⟩ : ∃ q, k = q + 1 := ⟨k - 1, by omega⟩
     unfold reachQ
     rw [if_pos hp, et, ← hx, ← htk, if_pos hc, Option.bind_some, if_pos ⟨by unfold LIMR; omega, by unfold LIMR; omega⟩]
     exact hr k (by omega)
    ·rcases (hmem y).mp hy with hy | hy
     ·exact cr.root y (List.mem_append_left _ hy) hF
     ·rw [hy]; exact cr.had x (by simp)
    ·refine cr.shut (fun y hy z hz => ?_)
     rcases List.mem_append.mp hy with hy | hy
     ·rcases hs y hy z hz with q | q
      ·exact .inl (List.mem_append_left _ q)
      ·rcases (hmem z).mp q with q | q
       ·exact .inr (List.mem_append_left _ q)
       ·rw [q]; exact .inl (by simp)
     ·rw [List.mem_singleton.mp hy] at hz
      exact .inr (List.mem_append_right _ hz)
    ·rcases cr.led y hy with q | q | q
     ·rcases List.mem_append.mp q with q | q
      ·exact .inl q
      ·rw [List.mem_singleton.mp q]; exact .inr (.inl ((hmem x).mpr (.inr rfl)))
     ·rcases List.mem_append.mp q with q | q
      ·exact .inr (.inl ((hmem y).mpr (.inl q)))
      ·exact .inr (.inr ⟨x, cr.had x (by simp), q⟩)
     ·exact .inr (.inr q)
    ·have hTx : T x := h2 x ((hmem x).mpr (.inr rfl)) hc.1
     refine cr.least T (fun y hy => ?_) (fun y hy hF => ?_) h3
     ·rcases List.mem_append.mp hy with hy | hy
      ·exact h1 y hy
      ·rw [List.mem_singleton.mp hy]; exact hTx
     ·rcases List.mem_append.mp hy with hy | hy
      ·exact h2 y ((hmem y).mpr (.inl hy)) hF
      ·exact h3 x hTx hc.1 y hy
   ·obtain ⟨r, hr, cr⟩ := ih tk out (by omega) (by omega) hl hi hn
    have hxr : isF x = true → x ∈ out := fun hF => by
     have h1 : out.contains x ≠ false := fun q => hc ⟨hF, q⟩
     exact List.contains_iff_mem.mp (by simpa using h1)
    refine ⟨r, fun k hk => ?_, ⟨cr.had, fun y hy hF => ?_, fun hs => ?_, cr.is, cr.nodup, fun y hy => ?_, fun T h1 h2 h3 => ?_, cr.len⟩⟩
    ·obtain ⟨k, rfl⟩ : ∃ q, k = q + 1 := ⟨k - 1, by omega⟩
     unfold reachQ
     rw [if_pos hp, et, ← hx, ← htk, if_neg hc]
     exact hr k (by omega)
    ·rcases (hmem y).mp hy with hy | hy
     ·exact cr.root y hy hF
     ·rw [hy] at hF ⊢; exact cr.had x (hxr hF)
    ·refine cr.shut (fun y hy z hz => ?_)
     rcases hs y hy z hz with q | q
     ·exact .inl q
     ·rcases (hmem z).mp q with q | q
      ·exact .inr q
      ·rw [q]; exact .inl (hxr (by rw [← q]; exact (h.near y (hi y hy)).2 z hz))
    ·rcases cr.led y hy with q | q | q
     ·exact .inl q
     ·exact .inr (.inl ((hmem y).mpr (.inl q)))
     ·exact .inr (.inr q)
    ·exact cr.least T h1 (fun y hy hF => h2 y ((hmem y).mpr (.inl hy)) hF) h3
  ·have h0 : todo = [] := List.eq_nil_of_length_eq_zero (by omega)
   subst h0
   refine ⟨out, fun k hk => ?_, ⟨fun x hx => hx, fun x hx => absurd hx (by simp), fun hs x hx y hy => (hs x hx y hy).resolve_right (by simp), hi, hn, fun x hx => .inl hx, fun T h1 _ _ x hx => h1 x hx, by omega⟩⟩
   obtain ⟨k, rfl⟩ : ∃ q, k = q + 1 := ⟨k - 1, by omega⟩
   unfold reachQ
   rw [if_neg (by simp)]
/-- In order, each once. -/
theorem sort_up {l : List Int} (h : l.Nodup) : (l.mergeSort fun x y => decide (x ≤ y)).Pairwise (· < ·) := by
 have h1 := List.pairwise_mergeSort (le := fun x y : Int => decide (x ≤ y)) (fun a b c h1 h2 => by simp at h1 h2 ⊢; omega) (fun a b => by simp; omega) l
 have h2 : (l.mergeSort fun x y => decide (x ≤ y)).Pairwise (· ≠ ·) := (List.mergeSort_perm l _).nodup_iff.mpr h
 exact (h1.and h2).imp (fun {a b} q => by
  have := of_decide_eq_true q.1
  have := q.2
  omega)
/-- The numbers from 1 on. -/
def upTo (n : Nat) : List Int := (List.range n).map fun i : Nat => (i : Int) + 1
theorem upTo_mem {L : List (Int × List Int)} (x : Int) (h : isO L x = true) : x ∈ upTo L.length := by
 have h1 := of_decide_eq_true h
 exact List.mem_map.mpr ⟨(x - 1).toNat, List.mem_range.mpr (by omega), by omega⟩
end Go.Proofs.Ytonmlncejikbiaa.Q
namespace Go.Proofs.Ytonmlncejikbiaa.Q
open Go.RowKit Go.Proofs.YtonmlncejikbiaaW.PrintWords Go.Proofs.YtonmlncejikbiaaW.PrintLast Go.Proofs.YtonmlncejikbiaaW.PrintMore
attribute [local go_sem] max2_int min2_int max_two min_two max_three min_three max_four min_four   -- for this text's walks alone
set_option linter.unusedVariables false
set_option linter.unusedSimpArgs false
/-! ### truantref03_Elem: function 20 -/
def truantref03_Elem.f (k : Nat) (a0 : ByteArray) : Option (ByteArray) := if (a0.size : Int) < 2 then (some (⟨#[]⟩ : ByteArray)) else (if 0 < (a0.size : Int) then (if (bt a0 0) = 42 then (if 1 ≤ (a0.size : Int) then ((truantref02_Word.f k (a0.extract 1 a0.size)).bind fun t306 => (if t306 = true then (some (a0.extract 1 a0.size)) else (some (⟨#[]⟩ : ByteArray)))) else (none)) else (some (⟨#[]⟩ : ByteArray))) else (none))
theorem truantref03_Elem.mono : ∀ a0 k, LeO (truantref03_Elem.f k a0) (truantref03_Elem.f (k + 1) a0) := by
 intro a0 k
 unfold truantref03_Elem.f
 repeat' first
   | (with_reducible exact truantref02_Word.mono _ _)
   | (with_reducible exact LeO.refl _)
   | (with_reducible exact LeO.none _)
   | (with_reducible refine LeO.ite ?_ ?_)
   | (with_reducible refine LeO.bind ?_ (fun _ => ?_))
   | exact truantref02_Word.mono _ _
   | exact LeO.none _
   | refine LeO.ite ?_ ?_
   | refine LeO.bind ?_ (fun _ => ?_)
set_option maxHeartbeats 8000000 in
set_option maxRecDepth 100000 in
theorem truantref03_Elem.calls (k : Nat) (a0 : ByteArray) (r : ByteArray) (w : World) (h : truantref03_Elem.f k a0 = some r) :
  Calls Try.prog 20 #[.string a0] w fun e w' => e = .returned (.string r) ∧ Below w.heap.size w w' := by
 have HB := Aside0.mk (Below.refl w.heap.size w)
 have H : (if (a0.size : Int) < 2 then (some (⟨#[]⟩ : ByteArray)) else (if 0 < (a0.size : Int) then (if (bt a0 0) = 42 then (if 1 ≤ (a0.size : Int) then ((truantref02_Word.f k (a0.extract 1 a0.size)).bind fun t306 => (if t306 = true then (some (a0.extract 1 a0.size)) else (some (⟨#[]⟩ : ByteArray)))) else (none)) else (some (⟨#[]⟩ : ByteArray))) else (none))) = some r := h
 clear h
 by_cases c2 : (a0.size : Int) < 2
 ·rw [if_pos c2] at H
  have c2b0 : decide ((a0.size : Int) < 2) = true := decide_eq_true c2
  have c2b1 : decide (a0.size < 2) = true := decide_eq_true (by omega)
  clear c2
  obtain rfl := Option.some.inj H
  go_enter Try.func20, Try.ntmps20
  go_wp2
  go_ret
  exact ⟨by first | rfl | (simp [errW_none, errW_some] <;> rfl) | (simp [*, errW_none, errW_some] <;> rfl), by repeat (first | (with_reducible first | exact HB.out | apply below_alloc | apply pw_below_drewN | apply below_drew1) | exact HB.out)⟩
 ·rw [if_neg c2] at H
  have c2b0 : decide ((a0.size : Int) < 2) = false := decide_eq_false c2
  have c2b1 : decide (a0.size < 2) = false := decide_eq_false (by omega)
  clear c2
  by_cases c3 : 0 < (a0.size : Int)
  ·rw [if_pos c3] at H
   have c3b0 : decide (0 < (a0.size : Int)) = true := decide_eq_true c3
   have c3b1 : decide (0 < a0.size) = true := decide_eq_true (by omega)
   clear c3
   by_cases c5 : (bt a0 0) = 42
   ·rw [if_pos c5] at H
    have c5b0 : ((bt a0 0) == 42) = true := beq_iff_eq.mpr c5
    have c5b1 : ((bt a0 0) != 42) = false := bne_eq_false_iff_eq.mpr c5
    clear c5
    by_cases c6 : 1 ≤ (a0.size : Int)
    ·rw [if_pos c6] at H
     have c6b0 := eq_true c6
     have c6b1 : decide (1 ≤ (a0.size : Int)) = true := decide_eq_true c6
     clear c6
     replace H := Option.bind_eq_some_iff.mp H
     obtain ⟨t306, A70, H⟩ := H
     replace H : (if t306 = true then (some (a0.extract 1 a0.size)) else (some (⟨#[]⟩ : ByteArray))) = some r := H
     have A7 := Aside0.mk A70
     clear A70
     by_cases c8 : t306 = true
     ·subst c8
      have H1 : (some (a0.extract 1 a0.size)) = some r := by rw [if_pos rfl] at H; exact H
      clear H
      have H := H1
      clear H1
      have c9b0 := eq_true (of_decide_eq_true (by first | (with_reducible assumption) | assumption) : 1 ≤ (a0.size : Int))
      obtain rfl := Option.some.inj H
      have p4 : 0 ≤ (0 : Int) := (by omega)
      have q4 : 0 < a0.size := (by have : (0 : Int) < (a0.size : Int) := of_decide_eq_true (by first | (with_reducible assumption) | assumption); omega)
      have hx4 : ∀ h : 0 < a0.size, ((a0[0]'h).toNat : Int) = bt a0 0 := bt_at a0 0
      clear p4
      have qi4 : (0 < (a0.size : Int)) = True := eq_true (of_decide_eq_true (by first | (with_reducible assumption) | assumption))
      replace q4 := eq_true q4
      go_enter Try.func20, Try.ntmps20
      go_wp2_with (first | (go_at_call 70; (with_reducible refine (truantref02_Word.calls k (a0.extract 1 a0.size) true _ A7.out).mono ?_); rintro e w10 ⟨rfl, hb⟩; have n0_ := Aside0.mk (below_step (by repeat (first | (with_reducible first | exact HB.out | apply below_alloc | apply pw_below_drewN | apply below_drew1) | exact HB.out)) hb); clear HB; have HB := n0_; clear n0_; (try clear hb); (try clear hb2); (try clear hk); (try clear hi)))
      go_ret
      exact ⟨by first | rfl | (simp [errW_none, errW_some] <;> rfl) | (simp [*, errW_none, errW_some] <;> rfl), by repeat (first | (with_reducible first | exact HB.out | apply below_alloc | apply pw_below_drewN | apply below_drew1) | exact HB.out)⟩
     ·replace c8 := Bool.eq_false_iff.mpr c8
      subst c8
      have H1 : (some (⟨#[]⟩ : ByteArray)) = some r := by rw [if_neg (show ¬ (false = true) by decide)] at H; exact H
      clear H
      have H := H1
      clear H1
      obtain rfl := Option.some.inj H
      have p4 : 0 ≤ (0 : Int) := (by omega)
      have q4 : 0 < a0.size := (by have : (0 : Int) < (a0.size : Int) := of_decide_eq_true (by first | (with_reducible assumption) | assumption); omega)
      have hx4 : ∀ h : 0 < a0.size, ((a0[0]'h).toNat : Int) = bt a0 0 := bt_at a0 0
      clear p4
      have qi4 : (0 < (a0.size : Int)) = True := eq_true (of_decide_eq_true (by first | (with_reducible assumption) | assumption))
      replace q4 := eq_true q4
      go_enter Try.func20, Try.ntmps20
      go_wp2_with (first | (go_at_call 70; (with_reducible refine (truantref02_Word.calls k (a0.extract 1 a0.size) false _ A7.out).mono ?_); rintro e w11 ⟨rfl, hb⟩; have n0_ := Aside0.mk (below_step (by repeat (first | (with_reducible first | exact HB.out | apply below_alloc | apply pw_below_drewN | apply below_drew1) | exact HB.out)) hb); clear HB; have HB := n0_; clear n0_; (try clear hb); (try clear hb2); (try clear hk); (try clear hi)))
      go_ret
      exact ⟨by first | rfl | (simp [errW_none, errW_some] <;> rfl) | (simp [*, errW_none, errW_some] <;> rfl), by repeat (first | (with_reducible first | exact HB.out | apply below_alloc | apply pw_below_drewN | apply below_drew1) | exact HB.out)⟩
    ·rw [if_neg c6] at H
     exact absurd H (by simp)
   ·rw [if_neg c5] at H
    have c5b0 : ((bt a0 0) == 42) = false := beq_eq_false_iff_ne.mpr c5
    have c5b1 : ((bt a0 0) != 42) = true := bne_iff_ne.mpr c5
    obtain rfl := Option.some.inj H
    have p4 : 0 ≤ (0 : Int) := (by omega)
    have q4 : 0 < a0.size := (by have : (0 : Int) < (a0.size : Int) := of_decide_eq_true (by first | (with_reducible assumption) | assumption); omega)
    have hx4 : ∀ h : 0 < a0.size, ((a0[0]'h).toNat : Int) = bt a0 0 := bt_at a0 0
    clear p4
    have qi4 : (0 < (a0.size : Int)) = True := eq_true (of_decide_eq_true (by first | (with_reducible assumption) | assumption))
    replace q4 := eq_true q4
    go_enter Try.func20, Try.ntmps20
    go_wp2
    go_ret
    exact ⟨by first | rfl | (simp [errW_none, errW_some] <;> rfl) | (simp [*, errW_none, errW_some] <;> rfl), by repeat (first | (with_reducible first | exact HB.out | apply below_alloc | apply pw_below_drewN | apply below_drew1) | exact HB.out)⟩
  ·rw [if_neg c3] at H
   exact absurd H (by simp)
end Go.Proofs.Ytonmlncejikbiaa.Q
/- The plain law of layer 3, kind: what the printed functions come to. -/
namespace Go.Proofs.Ytonmlncejikbiaa.Q
open Go.RowKit Go.Proofs.YtonmlncejikbiaaW.PrintWords Go.Proofs.YtonmlncejikbiaaW.PrintLast Go.Proofs.YtonmlncejikbiaaW.PrintMore
set_option linter.unusedVariables false
set_option linter.unusedSimpArgs false
/-! words -/
theorem index_ev (l : List ByteArray) (s : ByteArray) (hm : l.length ≤ 9223372036854775807) (d : Nat) : ∀ i : Nat, i ≤ l.length → l.length - i = d → (∀ j : Nat, j < i → keyIs s (l.getD j ByteArray.empty) = false) →
  Ev (fun k => slices_Index_string_string.l0 k l s (l.length : Int) (i : Int)) (findR (keyIs s) l) := by
 induction d with
 | zero =>
  intro i h0 hd h
  refine Ev.step (fun k => rfl) (Ev.neg (by omega) ?_)
  rw [find_none (z := ByteArray.empty) (fun j hj => h j (by omega))]
  exact Ev.now _
 | succ d ih =>
  intro i h0 hd h
  refine Ev.step (fun k => rfl) (Ev.pos (by omega) (Ev.pos (by omega) (Ev.pos (by omega) ?_)))
  by_cases e : keyIs s (l.getD i ByteArray.empty) = true
  ·have e2 : s.toList = (rdOf ByteArray.empty l (i : Int)).toList := (beq_iff_eq.mp e).symm
   refine Ev.pos e2 ?_
   rw [find_last (z := ByteArray.empty) (k := i) (by omega) h e]
   exact Ev.now _
  ·have e2 : ¬ s.toList = (rdOf ByteArray.empty l (i : Int)).toList := fun q => e (beq_iff_eq.mpr q.symm)
   refine Ev.neg e2 ?_
   rw [wrap_succ (by omega) (by omega)]
   exact ih (i + 1) (by omega) (by omega) (all_succ (P := fun j => keyIs s (l.getD j ByteArray.empty) = false) h (by simpa using e))
def keyB (s : ByteArray) : Bool := decide (0 ≤ findR (keyIs s) keyList)
theorem isKey_ev (s : ByteArray) : Ev (fun k => lex_IsKey.f k s) (keyB s) := by
 have h := index_ev keyList s (by decide) 16 0 (by decide) (by decide) (fun j hj => absurd hj (by omega))
 have h2 : Ev (fun k => slices_Contains_string_string.f k keyList s) (keyB s) := Ev.bind h (Ev.now _)
 exact Ev.one (a := lex_keys.f) (b := keyList) rfl (Ev.bind h2 (Ev.now _))
def wordB (s : ByteArray) : Bool := nameB s && (decide (s.size ≤ 12) && !keyB s)
theorem isWord_ev (s : ByteArray) (hs : s.size ≤ 9223372036854775807) : Ev (fun k => lex_IsWord.f k s) (wordB s) := by
 refine Ev.one (a := lex_isName.f s) (b := nameB s) (by unfold lex_isName.f; rw [if_pos hs]) ?_
 unfold wordB
 cases nameB s with
 | false => exact Ev.neg (by decide) (Ev.now _)
 | true =>
  refine Ev.pos rfl ?_
  by_cases h : s.size ≤ 12
  ·refine Ev.pos (by omega) (Ev.eq (Ev.bind (isKey_ev s) (Ev.now _)) (by simp [h]))
  ·refine Ev.neg (by omega) (Ev.eq (Ev.now _) (by simp [h]))
theorem rletter (a : Int) : truantref02_letter.f a = some (letB a) := letB_some a
theorem rdigit (a : Int) : truantref02_digit.f a = some (digB a) := digB_some a
theorem word_l (s : ByteArray) (hs : s.size ≤ 12) (d : Nat) : ∀ i : Nat, i ≤ s.size → s.size - i = d → (∀ j : Nat, j < i → lodB (bt s j) = true) →
  Ev (fun k => truantref02_Word.l0 k s (i : Int)) ((List.range s.size).all (fun i => lodB (bt s (i : Nat)))) := by
 induction d with
 | zero =>
  intro i h0 hd h
  refine Ev.step (fun k => rfl) (Ev.neg (by omega) (Ev.eq (Ev.now _) ?_))
  rw [run_all (k := i) h0 h (fun q => absurd q (by omega))]
  exact (beq_iff_eq.mpr (by omega)).symm
 | succ d ih =>
  intro i h0 hd h
  refine Ev.step (fun k => rfl) (Ev.pos (by omega) (Ev.pos (by omega) (Ev.one (rletter _) ?_)))
  have hno : lodB (bt s i) = false → Ev (fun k : Nat => (some false : Option Bool)) ((List.range s.size).all (fun i => lodB (bt s (i : Nat)))) := fun q => by
   rw [run_all (k := i) h0 h (fun _ => q), beq_eq_false_iff_ne.mpr (by omega)]
   exact Ev.now _
  have hyes : lodB (bt s i) = true → Ev (fun k => truantref02_Word.l0 k s (wrap64 ((i : Int) + 1))) ((List.range s.size).all (fun i => lodB (bt s (i : Nat)))) := fun q => by
   rw [wrap_succ (by omega) (by omega)]
   exact ih (i + 1) (by omega) (by omega) (all_succ (P := fun j => lodB (bt s (j : Nat)) = true) h q)
  cases hl : letB (bt s i) with
  | true => exact Ev.pos rfl (hyes (by unfold lodB; rw [hl]; rfl))
  | false =>
   refine Ev.neg (by decide) (Ev.one (rdigit _) ?_)
   cases hd2 : digB (bt s i) with
   | true => exact Ev.pos rfl (hyes (by unfold lodB; rw [hd2]; simp))
   | false => exact Ev.neg (by decide) (hno (by unfold lodB; rw [hl, hd2]; rfl))
theorem rword_ev (s : ByteArray) : Ev (fun k => truantref02_Word.f k s) (wordB s) := by
 have j_true : Ev (fun k => truantref02_Word.j0 k s true) false := Ev.step (f := fun _ => some false) (fun k => rfl) (Ev.now _)
 by_cases h0 : s.size = 0
 ·refine Ev.pos (by omega) (Ev.eq j_true ?_)
  simp [wordB, nameB, h0]
 ·refine Ev.neg (by omega) ?_
  by_cases h1 : s.size ≤ 12
  ·refine Ev.neg (by omega) (Ev.pos (by omega) (Ev.one (rletter _) ?_))
   cases hl : letB (bt s 0) with
   | false => exact Ev.neg (by decide) (Ev.eq j_true (by simp [wordB, nameB, hl]))
   | true =>
    refine Ev.pos rfl (Ev.one (a := truantref02_Key.f s) (b := keyB s) rfl ?_)
    cases hk : keyB s with
    | true => exact Ev.eq j_true (by simp [wordB, hk])
    | false =>
     refine Ev.step (f := fun k => truantref02_Word.l0 k s 0) (fun k => rfl) (Ev.eq (word_l s h1 s.size 0 (by omega) (by omega) (fun j hj => absurd hj (by omega))) ?_)
     have h3 : 0 < s.size := by omega
     simp [wordB, nameB, hk, hl, h1, h3]
  ·refine Ev.pos (by omega) (Ev.eq j_true ?_)
   simp [wordB, h1]
/-! types -/
/-- Behind the star, if that is a word. -/
def rest (t : ByteArray) : ByteArray := t.extract 1 t.size
def starB (t : ByteArray) : Bool := decide (0 < t.size) && (bt t 0 == 42)
def ptrB (t : ByteArray) : Bool := starB t && wordB (rest t)
def elemS (t : ByteArray) : ByteArray × Bool := if ptrB t = true then (rest t, true) else (⟨#[]⟩, false)
theorem rest_size (t : ByteArray) : (rest t).size = t.size - 1 := by unfold rest; simp
theorem cutPrefix_one (t : ByteArray) : strings_CutPrefix.f t (⟨#[42]⟩ : ByteArray) = some (if starB t = true then (rest t, true) else (t, false)) := by
 have e1 : ((⟨#[42]⟩ : ByteArray).size : Int) = 1 := rfl
 have e2 : (⟨#[42]⟩ : ByteArray).toList = [42] := by rw [ByteArray.toList_eq]
 unfold strings_CutPrefix.f stringslite_CutPrefix.f stringslite_HasPrefix.f
 rw [e1, e2]
 by_cases h0 : 0 < t.size
 ·have hb : ((t.extract 0 (1 : Int).toNat).toList == [42]) = starB t := by
   obtain ⟨⟨l⟩⟩ := t
   cases l with
   | nil => simp [ByteArray.size] at h0
   | cons x l =>
    have e3 : (ByteArray.extract ⟨⟨x :: l⟩⟩ 0 (1 : Int).toNat).toList = [x] := by
     rw [Lib.extract_toList]; rfl
    have e4 : bt ⟨⟨x :: l⟩⟩ 0 = (x.toNat : Int) := (bt_at ⟨⟨x :: l⟩⟩ 0 (by simpa using h0)).symm
    unfold starB
    rw [e3, e4]
    simp only [h0, decide_true, Bool.true_and]
    by_cases hx : x = 42
    ·subst hx; rfl
    ·rw [beq_eq_false_iff_ne.mpr (by simpa using hx), beq_eq_false_iff_ne.mpr]
     intro q
     apply hx
     apply UInt8.toNat_inj.mp
     have e42 : (42 : UInt8).toNat = 42 := rfl
     omega
  rw [if_pos (by omega), if_pos (by omega), if_pos (by omega), hb]
  simp only [Option.bind_some]
  cases starB t with
  | true => rw [if_pos rfl, if_pos (by omega), if_pos (by omega)]; rfl
  | false => rw [if_neg (by decide)]; rfl
 ·have : starB t = false := by unfold starB; simp [h0]
  rw [if_neg (by omega), this]
  rfl
theorem elem_ev (t : ByteArray) (ht : t.size ≤ 9223372036854775807) : Ev (fun k => kind_Elem.f k t) (elemS t) := by
 refine Ev.one (cutPrefix_one t) ?_
 unfold elemS ptrB
 cases starB t with
 | false => exact Ev.neg (by simp) (Ev.now _)
 | true =>
  refine Ev.pos rfl (Ev.bind (isWord_ev (rest t) (by rw [rest_size]; omega)) ?_)
  cases hw : wordB (rest t) with
  | false => exact Ev.neg (by decide) (Ev.now _)
  | true => exact Ev.pos rfl (Ev.now _)
theorem relem_ev (t : ByteArray) : Ev (fun k => truantref03_Elem.f k t) (elemS t).1 := by
 have hw1 : wordB (rest t) = true → 1 < t.size := fun h => by
  unfold wordB nameB at h
  simp at h
  have := h.1.1.1
  rw [rest_size] at this
  omega
 by_cases h2 : t.size < 2
 ·refine Ev.pos (by omega) (Ev.eq (Ev.now _) ?_)
  unfold elemS
  rw [if_neg]
  unfold ptrB
  intro q
  simp at q
  have := hw1 q.2
  omega
 ·refine Ev.neg (by omega) (Ev.pos (by omega) ?_)
  by_cases hs : bt t 0 = 42
  ·have hsb : starB t = true := by unfold starB; rw [hs]; simp; omega
   refine Ev.pos hs (Ev.pos (by omega) (Ev.bind (rword_ev (rest t)) ?_))
   unfold elemS ptrB
   rw [hsb]
   cases hw : wordB (rest t) with
   | false => exact Ev.neg (by decide) (Ev.now _)
   | true => exact Ev.pos rfl (Ev.now _)
  ·have hsb : starB t = false := by unfold starB; rw [beq_eq_false_iff_ne.mpr hs]; simp
   refine Ev.neg hs (Ev.eq (Ev.now _) ?_)
   unfold elemS ptrB
   rw [hsb]; rfl
theorem rfind_ev (l : List S43) (s : ByteArray) (hm : l.length ≤ 9223372036854775807) : Ev (fun k => truantref03_Find.f k l s) (findR (nameIs s) l) := by
 have key : ∀ (d i : Nat), i ≤ l.length → l.length - i = d → (∀ j : Nat, j < i → nameIs s (l.getD j z43) = false) → Ev (fun k => truantref03_Find.l0 k l s (i : Int)) (findR (nameIs s) l) := by
  intro d
  induction d with
  | zero =>
   intro i h0 hd h
   refine Ev.step (fun k => rfl) (Ev.neg (by omega) ?_)
   rw [find_none (z := z43) (fun j hj => h j (by omega))]
   exact Ev.now _
  | succ d ih =>
   intro i h0 hd h
   refine Ev.step (fun k => rfl) (Ev.pos (by omega) (Ev.pos (by omega) ?_))
   by_cases e : nameIs s (l.getD i z43) = true
   ·refine Ev.pos (beq_iff_eq.mp e) ?_
    rw [find_last (z := z43) (k := i) (by omega) h e]
    exact Ev.now _
   ·refine Ev.neg (fun q => e (beq_iff_eq.mpr q)) ?_
    rw [wrap_succ (by omega) (by omega)]
    exact ih (i + 1) (by omega) (by omega) (all_succ (P := fun j => nameIs s (l.getD j z43) = false) h (by simpa using e))
 exact key l.length 0 (by omega) (by omega) (fun j hj => absurd hj (by omega))
/-! the links -/
def linksD (fs : List S48) : Nat → Nat → List Int
 | 0, _ => []
 | d + 1, i => if (elemS (fs.getD i z48).f1).2 = true then (i : Int) :: linksD fs d (i + 1) else linksD fs d (i + 1)
def linksL (fs : List S48) : List Int := linksD fs fs.length 0
theorem linksD_len (fs : List S48) : ∀ d i, (linksD fs d i).length ≤ d
 | 0, i => by simp [linksD]
 | d + 1, i => by
  unfold linksD
  have := linksD_len fs d (i + 1)
  split
  ·simp; omega
  ·omega
theorem links_ev (n : ByteArray) (fs : List S48) (hm : fs.length ≤ 4398046511104) (hs : ∀ j : Nat, j < fs.length → (fs.getD j z48).f1.size ≤ 9223372036854775807) : Ev (fun k => kind_Links.f k n fs) (linksL fs) := by
 have key : ∀ (d i : Nat) (acc : List Int), i ≤ fs.length → fs.length - i = d → acc.length ≤ i → Ev (fun k => kind_Links.l0 k acc fs (fs.length : Int) (i : Int)) (acc ++ linksD fs d i) := by
  intro d
  induction d with
  | zero =>
   intro i acc h0 hd ha
   exact Ev.step (fun k => rfl) (Ev.neg (by omega) (Ev.eq (Ev.now _) (by simp [linksD])))
  | succ d ih =>
   intro i acc h0 hd ha
   refine Ev.step (fun k => rfl) (Ev.pos (by omega) (Ev.pos (by omega) (Ev.pos (by omega) (Ev.bind (elem_ev _ (hs i (by omega))) ?_))))
   rw [wrap_succ (by omega) (by omega)]
   unfold linksD
   by_cases h : (elemS (fs.getD i z48).f1).2 = true
   ·rw [if_pos h]
    refine Ev.pos h (Ev.pos (by omega) (Ev.eq (ih (i + 1) (acc ++ [(i : Int)]) (by omega) (by omega) (by simp; omega)) (by simp)))
   ·rw [if_neg h]
    exact Ev.neg h (ih (i + 1) acc (by omega) (by omega) (by omega))
 exact key fs.length 0 [] (by omega) (by omega) (by simp)
theorem compact_upto (xs : List Int) (hs : ∀ i j, i ≤ j → j < xs.length → xs.getD i 0 ≤ xs.getD j 0) : ∀ m, m ≤ xs.length → (Lib.compactUpTo xs.toArray m).Pairwise (· < ·) ∧ (∀ y ∈ Lib.compactUpTo xs.toArray m, ∃ j, j < m ∧ y = xs.getD j 0) ∧ (∀ j, j < m → xs.getD j 0 ∈ Lib.compactUpTo xs.toArray m)
 | 0, _ => ⟨by simp [Lib.compactUpTo], fun y hy => by simp [Lib.compactUpTo] at hy, fun j hj => by omega⟩
 | m + 1, hm => by
  obtain ⟨h1, h2, h3⟩ := compact_upto xs hs m (by omega)
  have em : xs.toArray[m]! = xs.getD m 0 := by rw [getD_at _ _ (by omega)]; simp [show m < xs.length by omega]
  rw [Lib.compactUpTo_succ, em]
  by_cases hk : Lib.keeps xs.toArray m = true
  ·rw [if_pos hk]
   refine ⟨List.pairwise_append.mpr ⟨h1, List.pairwise_singleton _ _, fun y hy z hz => ?_⟩, fun y hy => ?_, fun j hj => ?_⟩
   ·rw [List.mem_singleton] at hz; subst hz
    obtain ⟨j, hj, rfl⟩ := h2 y hy
    have em1 : xs.toArray[m - 1]! = xs.getD (m - 1) 0 := by rw [getD_at _ _ (by omega)]; simp [show m - 1 < xs.length by omega]
    unfold Lib.keeps at hk
    have hk2 := (of_decide_eq_true hk).resolve_left (by omega)
    rw [em, em1] at hk2
    have := hs j (m - 1) (by omega) (by omega)
    have := hs (m - 1) m (by omega) (by omega)
    omega
   ·rcases List.mem_append.mp hy with hy | hy
    ·obtain ⟨j, hj, e⟩ := h2 y hy; exact ⟨j, by omega, e⟩
    ·rw [List.mem_singleton] at hy; exact ⟨m, by omega, hy⟩
   ·by_cases e : j = m
    ·subst e; simp
    ·exact List.mem_append_left _ (h3 j (by omega))
  ·have hk' : Lib.keeps xs.toArray m = false := by simpa using hk
   rw [if_neg hk, List.append_nil]
   unfold Lib.keeps at hk'
   have hk2 := of_decide_eq_false hk'
   have hm0 : m ≠ 0 := fun e => hk2 (.inl e)
   have em1 : xs.toArray[m - 1]! = xs.getD (m - 1) 0 := by rw [getD_at _ _ (by omega)]; simp [show m - 1 < xs.length by omega]
   have e : xs.getD m 0 = xs.getD (m - 1) 0 := by
    rw [← em, ← em1]
    exact Classical.byContradiction (fun q => hk2 (.inr q))
   refine ⟨h1, fun y hy => ?_, fun j hj => ?_⟩
   ·obtain ⟨j, hj, e⟩ := h2 y hy; exact ⟨j, by omega, e⟩
   ·by_cases ej : j = m
    ·subst ej; rw [e]; exact h3 (j - 1) (by omega)
    ·exact h3 j (by omega)
theorem sort_le (L : List Int) : (L.mergeSort fun x y => decide (x ≤ y)).Pairwise (· ≤ ·) := by
 have h := List.pairwise_mergeSort (le := fun x y : Int => decide (x ≤ y)) (fun a b c h1 h2 => by simp at h1 h2 ⊢; omega) (fun a b => by simp; omega) L
 exact h.imp (fun h => by simpa using h)
theorem sort_mono (L : List Int) : ∀ i j, i ≤ j → j < (L.mergeSort fun x y => decide (x ≤ y)).length → (L.mergeSort fun x y => decide (x ≤ y)).getD i 0 ≤ (L.mergeSort fun x y => decide (x ≤ y)).getD j 0 := fun i j hij hj => by
 by_cases e : i = j
 ·subst e; exact Int.le_refl _
 ·rw [getD_at _ _ (by omega), getD_at _ _ hj]
  exact List.pairwise_iff_getElem.mp (sort_le L) i j (by omega) hj (by omega)
theorem sortC_mem (L : List Int) (x : Int) : x ∈ sortC L ↔ x ∈ L := by
 obtain ⟨S, hS⟩ : ∃ S, S = L.mergeSort fun x y => decide (x ≤ y) := ⟨_, rfl⟩
 have hm := sort_mono L
 rw [← hS] at hm
 obtain ⟨h1, h2, h3⟩ := compact_upto S hm S.length (Nat.le_refl _)
 have e : sortC L = Lib.compactUpTo S.toArray S.length := by unfold sortC Lib.compact; rw [hS]
 have hmem : x ∈ S ↔ x ∈ L := by rw [hS]; exact List.mem_mergeSort
 rw [e, ← hmem]
 constructor
 ·intro hx
  obtain ⟨j, hj, rfl⟩ := h2 x hx
  rw [getD_at _ _ hj]
  exact List.getElem_mem hj
 ·intro hx
  obtain ⟨j, hj, rfl⟩ := List.mem_iff_getElem.mp hx
  rw [← getD_at S 0 hj]
  exact h3 j hj
theorem sortC_len (L : List Int) : (sortC L).length ≤ L.length := by
 unfold sortC
 have := compact_le (L.mergeSort fun x y => decide (x ≤ y))
 rwa [List.length_mergeSort] at this
/-- Who is near. -/
def nearP (S : List S43) (L : List (Int × List Int)) (x : Int) : List Int := sortC (nearTo L (rdO L (x - 1)).2 (linksL (rd_T43 S (rdO L (x - 1)).1).f1))
theorem nearP_mem {S : List S43} {L : List (Int × List Int)} {x y : Int} : y ∈ nearP S L x ↔ isO L y = true ∧ ∃ q ∈ linksL (rd_T43 S (rdO L (x - 1)).1).f1, y = rd (rdO L (x - 1)).2 q := by
 unfold nearP nearTo
 rw [sortC_mem, List.mem_filter, List.mem_map]
 constructor
 ·rintro ⟨⟨q, hq, e⟩, h⟩; exact ⟨h, q, hq, e.symm⟩
 ·rintro ⟨h, q, hq, e⟩; exact ⟨⟨q, hq, e.symm⟩, h⟩
theorem linksL_in (fs : List S48) : ∀ d i : Nat, ∀ q ∈ linksD fs d i, (i : Int) ≤ q ∧ q < ((i + d : Nat) : Int)
 | 0, i, q, h => by cases h
 | d + 1, i, q, h => by
  unfold linksD at h
  have key : ∀ p, p ∈ linksD fs d (i + 1) → (i : Int) ≤ p ∧ p < ((i + (d + 1) : Nat) : Int) := fun p hp => by
   have := linksL_in fs d (i + 1) p hp
   omega
  split at h
  ·rcases List.mem_cons.mp h with h | h
   ·subst h; omega
   ·exact key q h
  ·exact key q h
theorem linksL_len (fs : List S48) : (linksL fs).length ≤ fs.length := linksD_len fs fs.length 0
theorem okL_nil (S : List S43) : OkL S [] := ⟨by decide, fun x hx => by cases hx⟩
theorem okL_mk {S : List S43} {L : List (Int × List Int)} (h : OkL S L) (nm : ByteArray) : OkL S (mkL S L nm) := by
 unfold mkL
 split
 ·exact h
 ·rename_i hc
  have h1 := h.len
  refine ⟨by rw [List.length_append, List.length_singleton]; omega, fun x hx => ?_⟩
  rcases List.mem_append.mp hx with hx | hx
  ·exact h.all x hx
  ·rw [List.mem_singleton] at hx
   subst hx
   obtain ⟨m, hm⟩ : ∃ m : Nat, atO S nm = m := ⟨(atO S nm).toNat, by omega⟩
   have hlt : m < S.length := find_lt (p := nameIs nm) hm
   refine ⟨by omega, by omega, ?_, fun n hn => ?_⟩
   ·unfold zerosO; rw [List.length_replicate]
   ·unfold zerosO at hn; have := List.eq_of_mem_replicate hn; omega
theorem okL_set {S : List S43} {L : List (Int × List Int)} (h : OkL S L) (o f n : Int) (hn : -9223372036854775808 ≤ n ∧ n ≤ 9223372036854775807) : OkL S (setO L o f n) := by
 unfold setO
 split
 ·rename_i hz
  obtain ⟨p0, p1, p2, p3⟩ := chk_zero hz
  refine ⟨by rw [List.length_set]; exact h.len, fun x hx => ?_⟩
  rcases List.mem_or_eq_of_mem_set hx with hx | hx
  ·exact h.all x hx
  ·subst hx
   obtain ⟨q0, q1, q2, q3⟩ := h.all _ (h.at (i := o - 1) (by omega) (by omega))
   refine ⟨q0, q1, by rw [List.length_set]; exact q2, fun m hm => ?_⟩
   rcases List.mem_or_eq_of_mem_set hm with hm | hm
   ·exact q3 m hm
   ·rw [hm]; exact hn
 ·exact h
theorem netP (S : List S43) (L : List (Int × List Int)) (hS : ∀ x ∈ S, x.f1.length ≤ 1000) : Net (isO L) (nearP S L) (upTo L.length) 1000 where
 univ := upTo_mem
 near := fun x _ => ⟨by
  unfold nearP
  refine Nat.le_trans (sortC_len _) (Nat.le_trans (nearTo_len _ _ _) (Nat.le_trans (linksL_len _) ?_))
  unfold rd_T43
  by_cases hj : (rdO L (x - 1)).1.toNat < S.length
  ·rw [getD_at _ _ hj]; exact hS _ (List.getElem_mem hj)
  ·rw [List.getD_eq_getElem?_getD, List.getElem?_eq_none (by omega)]; decide, fun y hy => (nearP_mem.mp hy).1⟩
end Go.Proofs.Ytonmlncejikbiaa.Q
namespace Go.Proofs.Ytonmlncejikbiaa.Q
open Go.RowKit Go.Proofs.YtonmlncejikbiaaW.PrintWords Go.Proofs.YtonmlncejikbiaaW.PrintLast Go.Proofs.YtonmlncejikbiaaW.PrintMore
attribute [local go_sem] max2_int min2_int max_two min_two max_three min_three max_four min_four   -- for this text's walks alone
set_option linter.unusedVariables false
set_option linter.unusedSimpArgs false
end Go.Proofs.Ytonmlncejikbiaa.Q
/- A heap's Near and Reach, by plain names; the document's 'has' of the law. -/
namespace Go.Proofs.Ytonmlncejikbiaa.Q
open Go.RowKit Go.Proofs.YtonmlncejikbiaaW.PrintWords Go.Proofs.YtonmlncejikbiaaW.PrintLast Go.Proofs.YtonmlncejikbiaaW.PrintMore
set_option linter.unusedVariables false
set_option linter.unusedSimpArgs false
/-- The structs that came in, as the walks want them. -/
structure RS (S : List S43) : Prop where
 len : S.length ≤ 1000000
 fields : ∀ x ∈ S, x.f1.length ≤ 1000
 links : ∀ x ∈ S, ∃ k, kind_Links.f k x.f0 x.f1 = some (linksL x.f1)
section
variable {base g : Nat} {w : World} {sv lv : Value} {S : List S43} {L : List (Int × List Int)} {sok lok : Nat → Prop}
theorem near_calls (x : Int) (h : HP w base g sv lv S L sok lok) (hk : OkL S L) (hs : RS S) (hx : isO L x = true) :
  Calls Try.prog 37 #[ptr g, .int .i64 x] w fun e w' => ∃ v0, e = .returned v0 ∧ (Kd.int .i64).R 3 w' w.heap.size (fun _ => True) v0 (nearP S L x) ∧ Below w.heap.size w w' := by
 have h1 := of_decide_eq_true hx
 obtain ⟨n, rfl⟩ : ∃ n : Nat, x = (n : Int) + 1 := ⟨(x - 1).toNat, by omega⟩
 obtain ⟨o0, o1, o2, _⟩ := hk.all _ (hk.at (i := (n : Int)) (by omega) (by omega))
 have hm : rd_T43 S (rdO L (n : Int)).1 ∈ S := by
  unfold rd_T43
  rw [getD_at _ _ (by omega)]
  exact List.getElem_mem _
 obtain ⟨k, hlk⟩ := hs.links _ hm
 have hf := hs.fields _ hm
 have := heap_Near.calls k n (rdO L (n : Int)) _ _ h hk (by omega) rfl rfl hlk (fun q hq => by
  have := linksL_in _ _ _ q hq
  omega) (by have := linksL_len (rd_T43 S (rdO L (n : Int)).1).f1; omega)
 have e : nearP S L ((n : Int) + 1) = sortC (nearTo L (rdO L (n : Int)).2 (linksL (rd_T43 S (rdO L (n : Int)).1).f1)) := by
  unfold nearP
  rw [show (n : Int) + 1 - 1 = n by omega]
 rw [e]
 exact this
theorem reach_calls (A0 : Option Addr) (c0 : Nat) (l0 : List Int) (h : HP w base g sv lv S L sok lok) (hk : OkL S L) (hs : RS S) (hr0 : (Kd.int .i64).C w A0 l0.length l0) (hc0 : l0.length ≤ c0) (hl : l0.length ≤ 1000000) :
  ∃ out, Came (isO L) (nearP S L) l0 [] out ∧ Calls Try.prog 36 #[ptr g, .slice A0 l0.length c0] w fun e w' => ∃ v0, e = .returned v0 ∧ (Kd.int .i64).R 3 w' w.heap.size (fun _ => True) v0 (out.mergeSort fun x y => decide (x ≤ y)) ∧ Below w.heap.size w w' := by
 have hn := netP S L hs.fields
 have hLl := hk.len
 have hu := unseen_le (upTo L.length) []
 have hul : (upTo L.length).length = L.length := by unfold upTo; rw [List.length_map, List.length_range]
 obtain ⟨u, hue⟩ : ∃ u, u = unseen (upTo L.length) [] * (1000 + 1) := ⟨_, rfl⟩
 have hmul : u ≤ 131203072 := by
  rw [hue]
  exact Nat.mul_le_mul_right (1000 + 1) (show unseen (upTo L.length) [] ≤ 131072 by omega)
 obtain ⟨m, hm⟩ : ∃ m, m = u + l0.length := ⟨_, rfl⟩
 have q1 : unseen (upTo L.length) [] * (1000 + 1) + l0.length ≤ m := by rw [← hue]; exact Nat.le_of_eq hm.symm
 clear hue
 have q2 : m + 1000 ≤ 1000000000 := by omega
 have q3 : ([] : List Int).length + unseen (upTo L.length) [] ≤ 1000000000 := by rw [List.length_nil]; omega
 obtain ⟨out, hrun, hc⟩ := reach_run hn m l0 [] q1 q2 q3 (fun x hx => absurd hx (by simp)) List.nodup_nil
 refine ⟨out, hc, ?_⟩
 refine heap_Reach.any (ptr g) (isO L) (fun x => some (nearP S L x)) _ A0 c0 l0 out w (fun w' x hb => heap_is.calls x (h.below hb)) (fun w' x ns hb hx hns => ?_) (fun x hx => ?_) hr0 hc0 hl (hrun _ (Nat.lt_succ_self _)) (by have := hc.len; show out.length < 1099511627776; omega)
 ·obtain rfl := Option.some.inj hns
  exact near_calls x (h.below hb) hk hs hx
 ·have := of_decide_eq_true hx
  omega
end
theorem reach_none (k : Nat) : ∀ l : List Int, l.length < k → reachQ (fun _ => false) (fun _ => none) k l [] = some [] := by
 induction k with
 | zero => intro l h; omega
 | succ k ih =>
  intro l h
  unfold reachQ
  by_cases hp : 0 < l.length
  ·rw [if_pos hp, if_neg (fun q => absurd q.1 (by decide))]
   exact ih _ (by rw [List.length_take]; omega)
  ·rw [if_neg hp]
set_option maxRecDepth 100000 in
theorem reach_nil (A0 : Option Addr) (c0 : Nat) (l0 : List Int) (w : World) (hr0 : (Kd.int .i64).C w A0 l0.length l0) (hc0 : l0.length ≤ c0) (hl : l0.length ≤ 1000000) :
  Calls Try.prog 36 #[.pointer none, .slice A0 l0.length c0] w fun e w' => ∃ v0, e = .returned v0 ∧ (Kd.int .i64).R 3 w' w.heap.size (fun _ => True) v0 [] ∧ Below w.heap.size w w' := by
 have h1 := heap_Reach.any (.pointer none) (fun _ => false) (fun _ => none) (l0.length + 1) A0 c0 l0 [] w (fun w' x _ => heap_is.nil x w') (fun w' x ns _ hx _ => by cases hx) (fun x hx => by cases hx) hr0 hc0 hl (reach_none _ _ (by omega)) (by show (0 : Nat) < 1099511627776; omega)
 rw [List.mergeSort_nil] at h1
 exact h1
abbrev HU := Hp 72 77
theorem infoUb : (Try.prog.info? 77).map (fun i => (i.zero, i.size, i.bytes)) = some (some (.agg #[.int .i64 0, .slice none 0 0]), kOb.sz, 32) := by kernel_rfl
def ref_Make.T6 : Bool × List (List Nat × List Nat) := (true, [([], []), ([], []), ([1], [1]), ([2], [2]), ([3], [3]), ([], []), ([], []), ([6], [6]), ([7], [7]), ([8], [8]), ([], []), ([9, 10], [9, 10]), ([11], [11]), ([12], [12]), ([13], [13]), ([14, 14], [14]), ([5, 15], [5, 15]), ([16], [16]), ([4, 17], [4, 17]), ([0, 0, 1, 2, 3, 4, 5, 6, 7, 8, 9, 10, 11, 12, 13, 14, 15, 16, 17, 18], [0]), ([19, 0, 1, 2, 3, 4, 5, 6, 7, 8, 9, 10, 11, 12, 13, 14, 15, 16, 17, 18], [19]), ([20, 18, 18, 0, 1, 2, 3, 4, 5, 6, 7, 8, 9, 10, 11, 12, 13, 14, 15, 16, 17, 18], [18, 20])])
def ref_Make.B6 : List Nat := [0, 0, 2, 6, 14, 0, 0, 64, 192, 448, 0, 1984, 4032, 8128, 16320, 32704, 65504, 131040, 262142, 524287, 1048575, 2097151]
theorem ref_Make.tab6 : rtab .any (opsOf Try.f43 6) = ref_Make.T6 := by kernel_rfl
theorem ref_Make.bits6 : waitsOk ref_Make.T6.2 ref_Make.B6 = true := by kernel_rfl
section
variable {base g : Nat} {w : World} {sv lv : Value} {S : List S43} {L : List (Int × List Int)} {sok lok : Nat → Prop}
set_option maxRecDepth 100000 in
set_option maxHeartbeats 2000000 in
theorem ref_Check.calls (obj f : Int) (h : HU w base g sv lv S L sok lok) :
  Calls Try.prog 86 #[ptr g, .int .i64 obj, .int .i64 f] w fun e w' => e = .returned (.int .i64 (chkE L obj f)) ∧ Below w.heap.size w w' := by
 obtain ⟨A, c, rfl, hc, hm⟩ := h.list
 obtain ⟨c0, c1, _, _⟩ := bk2 h.blk
 by_cases h0 : obj = 0
 ·subst h0
  have hr : chkE L 0 f = 10 := if_pos rfl
  rw [hr]
  go_enter Try.func86, Try.ntmps86
  go_wp2
  go_ret
  exact ⟨rfl, Below.refl _ _⟩
 ·by_cases h1 : obj < 0
  ·have hr : chkE L obj f = 13 := by unfold chkE; rw [if_neg h0, if_pos (.inl h1)]
   rw [hr]
   go_enter Try.func86, Try.ntmps86
   go_wp2
   go_ret
   exact ⟨rfl, Below.refl _ _⟩
  ·by_cases h2 : obj > (L.length : Int)
   ·have hr : chkE L obj f = 13 := by unfold chkE; rw [if_neg h0, if_pos (.inr h2)]
    rw [hr]
    go_enter Try.func86, Try.ntmps86
    go_wp2
    go_ret
    exact ⟨rfl, Below.refl _ _⟩
   ·obtain ⟨n, rfl⟩ : ∃ n : Nat, obj = (n : Int) + 1 := ⟨(obj - 1).toNat, by omega⟩
    have hn : n < L.length := by omega
    have e1 : (n : Int) + 1 - 1 = n := by omega
    obtain ⟨ad, cl, A1, c1', hA, _, q1, q2, q3, q4⟩ := h.elem (n : Int) (by omega) (by omega)
    cases hA
    simp only [Int.toNat_natCast] at q1 q2
    obtain ⟨x, hx⟩ : ∃ x, x = rdO L (n : Int) := ⟨_, rfl⟩
    rw [← hx] at q1 q2 q3 q4
    have hr : chkE L ((n : Int) + 1) f = if f < 0 ∨ f ≥ (x.2.length : Int) then 2 else 0 := by unfold chkE; rw [if_neg h0, if_neg (by omega), e1, ← hx]
    rw [hr]
    have hw : IntKind.i64.wrap ((n : Int) + 1 - 1) = n := by rw [e1, IntKind.wrap_i64]; omega
    clear hr hx q4 h
    by_cases h3 : f < 0
    ·rw [if_pos (.inl h3)]
     go_enter Try.func86, Try.ntmps86
     go_wp2
     go_ret
     exact ⟨rfl, Below.refl _ _⟩
    ·by_cases h4 : f ≥ (x.2.length : Int)
     ·rw [if_pos (.inr h4)]
      go_enter Try.func86, Try.ntmps86
      go_wp2
      go_ret
      exact ⟨rfl, Below.refl _ _⟩
     ·rw [if_neg (by omega)]
      go_enter Try.func86, Try.ntmps86
      go_wp2
      go_ret
      exact ⟨rfl, Below.refl _ _⟩
set_option maxRecDepth 100000 in
set_option maxHeartbeats 2000000 in
theorem ref_Get.calls (obj f : Int) (h : HU w base g sv lv S L sok lok) :
  Calls Try.prog 45 #[ptr g, .int .i64 obj, .int .i64 f] w fun e w' => e = .returned (.tuple #[.int .i64 (getO L obj f), .int .i64 (chkE L obj f)]) ∧ Below w.heap.size w w' := by
 have hchk := ref_Check.calls obj f h
 unfold getO
 by_cases hz : chkE L obj f = 0
 ·rw [hz] at hchk
  rw [if_pos hz, hz]
  obtain ⟨p0, p1, p2, p3⟩ := chk_zero hz
  clear hz
  obtain ⟨n, rfl⟩ : ∃ n : Nat, obj = (n : Int) + 1 := ⟨(obj - 1).toNat, by omega⟩
  have e1 : (n : Int) + 1 - 1 = n := by omega
  rw [e1] at p3 ⊢
  have hn : n < L.length := by omega
  obtain ⟨x, hx⟩ : ∃ x, x = rdO L (n : Int) := ⟨_, rfl⟩
  rw [← hx] at p3 ⊢
  obtain ⟨m, rfl⟩ : ∃ m : Nat, f = m := ⟨f.toNat, by omega⟩
  obtain ⟨y, hy⟩ : ∃ y, y = rd x.2 (m : Int) := ⟨_, rfl⟩
  rw [← hy]
  have H := Aside0.mk h; have HCH := Aside0.mk hchk; have HX := Aside0.mk hx; have HY := Aside0.mk hy; clear h hchk hx hy
  go_enter Try.func45, Try.ntmps45
  go_wp2_with fail
  refine HCH.out.mono ?_
  rintro e w1 ⟨rfl, hb⟩
  have HB := Aside0.mk hb
  have h1 := H.out.below hb
  clear hb H HCH
  obtain ⟨c0, c1, _, _⟩ := bk2 h1.blk
  obtain ⟨ad, cl, A1, c1', rfl, hcl, q1, q2, q3, q4⟩ := h1.elem (n : Int) (by omega) (by omega)
  obtain ⟨_, _, _, _, hm⟩ := h1.list
  simp only [Int.toNat_natCast] at q1 q2
  rw [← HX.out] at q1 q2 q3 q4
  obtain ⟨bd, rfl, hcell⟩ := Kd.at_int q4 (m : Int) (by omega) (by omega)
  simp only [Int.toNat_natCast] at hcell
  rw [← HY.out] at hcell
  have hw : IntKind.i64.wrap ((n : Int) + 1 - 1) = n := by rw [e1, IntKind.wrap_i64]; omega
  have hxm := Kd.C_max q4
  clear h1 q4 HX HY
  go_wp2
  go_ret2
  exact ⟨rfl, HB.out⟩
 ·rw [if_neg hz]
  have hne : (chkE L obj f != 0) = true := by simpa using hz
  clear hz h
  generalize chkE L obj f = c at hne hchk ⊢
  have HCH := Aside0.mk hchk; clear hchk
  go_enter Try.func45, Try.ntmps45
  go_wp2_with fail
  refine HCH.out.mono ?_
  rintro e w1 ⟨rfl, hb⟩
  have HB := Aside0.mk hb; clear hb HCH
  go_wp2
  go_ret2
  exact ⟨rfl, HB.out⟩
set_option maxRecDepth 100000 in
set_option maxHeartbeats 2000000 in
theorem ref_Set.calls (obj f z : Int) (h : HU w base g sv lv S L sok lok) :
  Calls Try.prog 44 #[ptr g, .int .i64 obj, .int .i64 f, .int .i64 z] w fun e w' => e = .returned (.int .i64 (chkE L obj f)) ∧ HU w' base g sv lv S (setO L obj f z) sok lok ∧ Kept w w' lok ∧ Below base w w' := by
 have hbase : base ≤ w.heap.size := Nat.le_trans h.low (Nat.le_of_lt (blk_lt h.blk))
 have hchk := ref_Check.calls obj f h
 unfold setO
 by_cases hz : chkE L obj f = 0
 ·rw [hz] at hchk
  rw [if_pos hz, hz]
  obtain ⟨p0, p1, p2, p3⟩ := chk_zero hz
  clear hz
  obtain ⟨n, rfl⟩ : ∃ n : Nat, obj = (n : Int) + 1 := ⟨(obj - 1).toNat, by omega⟩
  have e1 : (n : Int) + 1 - 1 = n := by omega
  rw [e1] at p3 ⊢
  have hn : n < L.length := by omega
  obtain ⟨x, hx⟩ : ∃ x, x = rdO L (n : Int) := ⟨_, rfl⟩
  rw [← hx] at p3 ⊢
  obtain ⟨m, rfl⟩ : ∃ m : Nat, f = m := ⟨f.toNat, by omega⟩
  simp only [Int.toNat_natCast]
  obtain ⟨y, hy⟩ : ∃ y, y = rd x.2 (m : Int) := ⟨_, rfl⟩
  have H := Aside0.mk h; have HCH := Aside0.mk hchk; have HX := Aside0.mk hx; have HY := Aside0.mk hy; clear h hchk hx hy
  go_enter Try.func44, Try.ntmps44
  go_wp2_with fail
  refine HCH.out.mono ?_
  rintro e w1 ⟨rfl, hb⟩
  have HK := Aside0.mk (Kept.of_below hb lok)
  have HBB := Aside0.mk (hb.mono hbase)
  have h1 := H.out.below hb
  clear hb H HCH
  obtain ⟨c0, c1, _, _⟩ := bk2 h1.blk
  have hxm : x.2.length ≤ 9223372036854775807 := by
   have h4 := (h1.elem (n : Int) (by omega) (by omega))
   obtain ⟨_, _, _, _, _, _, _, _, _, h4⟩ := h4
   rw [HX.out]; exact Kd.C_max h4
  obtain ⟨ad, cl, b, cp, rfl, hcl, q2, q3, q4, q5, q6⟩ := h1.lend (n : Int) (m : Int) (by omega) (by omega) p2 (by rw [← HX.out]; exact p3)
  obtain ⟨_, _, _, _, hm⟩ := h1.list
  have Q6 := Aside0.mk (q6 z)
  simp only [Int.toNat_natCast] at q2 q4 q5 Q6
  rw [← HX.out] at q2 q3 q4 Q6
  rw [← HY.out] at q4
  have hw : IntKind.i64.wrap ((n : Int) + 1 - 1) = n := by rw [e1, IntKind.wrap_i64]; omega
  clear h1 q6 HX HY
  go_wp2
  go_ret
  exact ⟨rfl, Q6.out.1, HK.out.then_ Q6.out.2.1 (fun k hk => .inl hk), HBB.out.trans Q6.out.2.2⟩
 ·rw [if_neg hz]
  have hne : (chkE L obj f != 0) = true := by simpa using hz
  have H := Aside0.mk h; clear h hz
  generalize chkE L obj f = c at hne hchk ⊢
  have HCH := Aside0.mk hchk; clear hchk
  go_enter Try.func44, Try.ntmps44
  go_wp2_with fail
  refine HCH.out.mono ?_
  rintro e w1 ⟨rfl, hb⟩
  have HK := Aside0.mk (Kept.of_below hb lok)
  have HBB := Aside0.mk (hb.mono hbase)
  have H1 := Aside0.mk (H.out.below hb)
  clear hb H HCH
  go_wp2
  go_ret
  exact ⟨rfl, H1.out, HK.out, HBB.out⟩
set_option maxRecDepth 100000 in
set_option maxHeartbeats 8000000 in
theorem ref_Make.calls (name : ByteArray) (h : HU w base g sv lv S L sok lok) (hL : L.length ≤ 131072) (hF : ∀ x ∈ S, x.f1.length ≤ 1000000) :
  Calls Try.prog 43 #[ptr g, .string name] w fun e w' => e = .returned (.tuple #[.int .i64 (mkN S L name), .int .i64 (mkE S L name)]) ∧
   ∃ lv' lok', HU w' base g sv lv' S (mkL S L name) sok lok' ∧ (∀ k, lok' k → lok k ∨ w.heap.size ≤ k) ∧ Kept w w' (Turns g lok) ∧ Below base w w' := by
 have hbase : base ≤ w.heap.size := Nat.le_trans h.low (Nat.le_of_lt (blk_lt h.blk))
 obtain ⟨A, c, rfl, hc, hC⟩ := h.structs
 obtain ⟨Al, cl, rfl, hcl, hm⟩ := h.list
 obtain ⟨c0, c1, _, _⟩ := bk2 h.blk
 obtain ⟨kf, hkf⟩ := (rfind_ev S name (Kd.C_max hC)).rounds
 have hfind := truantref03_Find.calls kf A c S name _ w hC hc hkf
 obtain ⟨a, ha⟩ : ∃ a, a = atO S name := ⟨_, rfl⟩
 have ha' : findR (nameIs name) S = a := ha.symm
 rw [ha'] at hfind
 unfold mkN mkE mkL
 rw [← ha]
 have H := Aside0.mk h
 by_cases hneg : a < 0
 ·rw [if_pos (show a < 0 ∨ L.length = 131072 from .inl hneg), if_pos hneg, if_pos (show a < 0 ∨ L.length = 131072 from .inl hneg)]
  have hdn : decide (a < 0) = true := decide_eq_true hneg
  have HFI := Aside0.mk hfind; clear hfind h hC ha ha'
  go_enter Try.func43, Try.ntmps43
  go_wp2_with fail
  refine HFI.out.mono ?_
  rintro e w1 ⟨rfl, hdb⟩
  have hb := hdb.below
  have HB := Aside0.mk hb; clear hb hdb c0 c1
  go_wp2
  go_ret2
  exact ⟨rfl, _, lok, H.out.below HB.out, fun k hk => .inl hk, Kept.of_below HB.out _, HB.out.mono hbase⟩
 ·obtain ⟨n, rfl⟩ : ∃ n : Nat, a = n := ⟨a.toNat, by omega⟩
  have hdn : decide ((n : Int) < 0) = false := decide_eq_false hneg
  have hn : n < S.length := find_lt ha'
  rw [if_neg hneg]
  have HFI := Aside0.mk hfind; clear hfind
  by_cases hfull : L.length = 131072
  ·rw [if_pos (show (n : Int) < 0 ∨ L.length = 131072 from .inr hfull), if_pos hfull, if_pos (show (n : Int) < 0 ∨ L.length = 131072 from .inr hfull)]
   have heq : decide ((L.length : Int) ≥ 131072) = true := decide_eq_true (by omega)
   clear h hC ha ha'
   go_enter Try.func43, Try.ntmps43
   go_wp2_with fail
   refine HFI.out.mono ?_
   rintro e w1 ⟨rfl, hdb⟩
   have hb := hdb.below
   have HB := Aside0.mk hb; clear hb hdb c0 c1
   obtain ⟨c0, c1, _, _⟩ := bk2 (H.out.below HB.out).blk
   go_wp2
   go_ret2
   exact ⟨rfl, _, lok, H.out.below HB.out, fun k hk => .inl hk, Kept.of_below HB.out _, HB.out.mono hbase⟩
  ·rw [if_neg (show ¬ ((n : Int) < 0 ∨ L.length = 131072) by omega), if_neg hfull, if_neg (show ¬ ((n : Int) < 0 ∨ L.length = 131072) by omega)]
   have heq : decide ((L.length : Int) ≥ 131072) = false := decide_eq_false (by omega)
   have hlf : (rd_T43 S (n : Int)).f1.length ≤ 1000000 := hF _ (by
    unfold rd_T43
    rw [Int.toNat_natCast, getD_at _ _ hn]
    exact List.getElem_mem hn)
   have HLF := Aside0.mk hlf
   clear h hC ha ha' hF hlf
   go_enter Try.func43, Try.ntmps43
   go_wp2_with fail
   refine HFI.out.mono ?_
   rintro e w1 ⟨rfl, hdb⟩
   have hb := hdb.below
   have HB := Aside0.mk hb; clear hb hdb c0 c1
   obtain ⟨c0, c1, _, _⟩ := bk2 (H.out.below HB.out).blk
   go_upto_region 6 with (fail)
   clear c0 c1
   have HK2 := Aside0.mk (below_drew1 HB.out)
   have H2 := Aside0.mk (H.out.below HK2.out)
   clear H HFI
   obtain ⟨ad, A1, c1', e1, _, hfc, hlc, _⟩ := at_T43 (Kd.V_reads' H2.out.sts).2.2 (n : Int) (by omega) (by omega)
   subst e1
   simp only [Int.toNat_natCast] at hfc
   obtain ⟨F, hFe⟩ : ∃ F, F = (rd_T43 S (n : Int)).f1 := ⟨_, rfl⟩
   rw [← hFe] at hfc hlc
   have HFE := Aside0.mk hFe
   rw [← hFe] at HLF
   obtain ⟨Lx, hLx⟩ : ∃ Lx, Lx = L ++ [((n : Int), List.replicate F.length (0 : Int))] := ⟨_, rfl⟩
   have HLX := Aside0.mk hLx
   have hln : (Lx.length : Int) = (L.length : Int) + 1 := by rw [hLx]; simp
   have HLN := Aside0.mk hln
   clear hFe HB hLx hln
   refine start_ (n := 22) (S := fun w' => w'.heap[g]? = some (.cells #[.slice (some ad) S.length c, .slice Al L.length cl] 72 (0, 0))) (ds := [21]) (tf 0 22) (by kernel_rfl) rfl rfl (H2.out.blk) (fun hHeld => ?_)
   refine with_tabW ref_Make.tab6 ref_Make.bits6 (fun HT_ HW_ => ?_)
   generalize w1.drew = w2 at H2 HK2 hfc hHeld ⊢
   refine pure_ (i := 0) (N := some 21) (v := ?_) (a' := ?_) (tf 1 21) rfl rfl (any_of HT_.out (by kernel_rfl)) (fun _ _ _ h => h) (Or.inl ⟨by rfl, ?_⟩) ?_ ?_
   rotate_left
   ·intro w'
    go_simp
    with_reducible rfl
   rotate_left
   ·simp only [Act.put, List.setIfInBounds_toArray, List.set_cons_zero, List.set_cons_succ, i64_w, i32_w]
    rfl
   refine pure_ (i := 1) (N := some 22) (v := ?_) (a' := ?_) (tf 2 20) rfl rfl (any_of HT_.out (by kernel_rfl)) (fun _ _ _ h => h) (Or.inl ⟨by rfl, ?_⟩) ?_ ?_
   rotate_left
   ·intro w'
    go_simp
    with_reducible rfl
   rotate_left
   ·simp only [Act.put, List.setIfInBounds_toArray, List.set_cons_zero, List.set_cons_succ, i64_w, i32_w]
    rfl
   refine pure_ (i := 2) (N := some 23) (v := ?_) (a' := ?_) (tf 3 19) rfl rfl (any_of HT_.out (by kernel_rfl)) (fun _ _ _ h => h) (Or.inl ⟨by rfl, ?_⟩) ?_ ?_
   rotate_left
   ·intro w'
    go_simp
    with_reducible rfl
   rotate_left
   ·simp only [Act.put, List.setIfInBounds_toArray, List.set_cons_zero, List.set_cons_succ, i64_w, i32_w]
    rfl
   refine pure_ (i := 3) (N := some 24) (v := ?_) (a' := ?_) (tf 4 18) rfl rfl (any_of HT_.out (by kernel_rfl)) (fun _ _ _ h => h) (Or.inl ⟨by rfl, ?_⟩) ?_ ?_
   rotate_left
   ·intro w'
    go_simp
    with_reducible rfl
   rotate_left
   ·simp only [Act.put, List.setIfInBounds_toArray, List.set_cons_zero, List.set_cons_succ, i64_w, i32_w]
    rfl
   refine pure_ (i := 5) (N := some 26) (v := ?_) (a' := ?_) #[true, true, true, true, false, true, false, false, false, false, false, false, false, false, false, false, false, false, false, false, false, false] rfl rfl (any_of HT_.out (by kernel_rfl)) (fun _ _ _ h => h) (Or.inl ⟨by rfl, ?_⟩) ?_ ?_
   rotate_left
   ·intro w'
    go_simp
    with_reducible rfl
   rotate_left
   ·simp only [Act.put, List.setIfInBounds_toArray, List.set_cons_zero, List.set_cons_succ, i64_w, i32_w]
    rfl
   refine pure_ (i := 6) (N := some 27) (v := ?_) (a' := ?_) #[true, true, true, true, false, true, true, false, false, false, false, false, false, false, false, false, false, false, false, false, false, false] rfl rfl (any_of HT_.out (by kernel_rfl)) (fun _ _ _ h => h) (Or.inl ⟨by rfl, ?_⟩) ?_ ?_
   rotate_left
   ·intro w'
    go_simp
    with_reducible rfl
   rotate_left
   ·simp only [Act.put, List.setIfInBounds_toArray, List.set_cons_zero, List.set_cons_succ, i64_w, i32_w]
    rfl
   refine pure_ (i := 7) (N := some 28) (v := ?_) (a' := ?_) #[true, true, true, true, false, true, true, true, false, false, false, false, false, false, false, false, false, false, false, false, false, false] rfl rfl (any_of HT_.out (by kernel_rfl)) (fun _ _ _ h => h) (Or.inl ⟨by rfl, ?_⟩) ?_ ?_
   rotate_left
   ·intro w'
    go_simp
    with_reducible rfl
   rotate_left
   ·simp only [Act.put, List.setIfInBounds_toArray, List.set_cons_zero, List.set_cons_succ, i64_w, i32_w]
    rfl
   refine pure_ (i := 8) (N := some 29) (v := ?_) (a' := ?_) #[true, true, true, true, false, true, true, true, true, false, false, false, false, false, false, false, false, false, false, false, false, false] rfl rfl (any_of HT_.out (by kernel_rfl)) (fun _ _ _ h => h) (Or.inl ⟨by rfl, ?_⟩) ?_ ?_
   rotate_left
   ·intro w'
    go_simp
    with_reducible rfl
   rotate_left
   ·simp only [Act.put, List.setIfInBounds_toArray, List.set_cons_zero, List.set_cons_succ, i64_w, i32_w]
    rfl
   refine pure_ (i := 10) (N := some 31) (v := ?_) (a' := ?_) #[true, true, true, true, false, true, true, true, true, false, true, false, false, false, false, false, false, false, false, false, false, false] rfl rfl (any_of HT_.out (by kernel_rfl)) (fun _ _ _ h => h) (Or.inl ⟨by rfl, ?_⟩) ?_ ?_
   rotate_left
   ·intro w'
    go_simp
    with_reducible rfl
   rotate_left
   ·simp only [Act.put, List.setIfInBounds_toArray, List.set_cons_zero, List.set_cons_succ, i64_w, i32_w]
    rfl
   refine take_ (i := 4) (N := some 25) (v := ?_) (a' := ?_) #[true, true, true, true, true, true, true, true, true, false, true, false, false, false, false, false, false, false, false, false, false, false] rfl rfl (take_ofW HT_.out HW_.out (by kernel_rfl)) (fun _ _ _ h => h) (Or.inl ⟨by rfl, ?_⟩) hHeld ?_ ?_
   rotate_left
   ·intro w' s0
    obtain ⟨c0, c1, _, _⟩ := bk2 s0
    go_simp
    with_reducible rfl
   rotate_left
   ·simp only [Act.put, List.setIfInBounds_toArray, List.set_cons_zero, List.set_cons_succ, i64_w, i32_w]
    rfl
   refine take_ (i := 9) (N := some 30) (v := ?_) (a' := ?_) (tf 11 11) rfl rfl (take_ofW HT_.out HW_.out (by kernel_rfl)) (fun _ _ _ h => h) (Or.inl ⟨by rfl, ?_⟩) hHeld ?_ ?_
   rotate_left
   ·intro w' s0
    obtain ⟨c0, c1, _, _⟩ := bk2 s0
    go_simp
    with_reducible rfl
   rotate_left
   ·simp only [Act.put, List.setIfInBounds_toArray, List.set_cons_zero, List.set_cons_succ, i64_w, i32_w]
    rfl
   refine pure_ (i := 11) (N := some 32) (v := ?_) (a' := ?_) (tf 12 10) rfl rfl (any_of HT_.out (by kernel_rfl)) (fun _ _ _ h => h) (Or.inl ⟨by rfl, ?_⟩) ?_ ?_
   rotate_left
   ·intro w'
    go_simp
    with_reducible rfl
   rotate_left
   ·simp only [Act.put, List.setIfInBounds_toArray, List.set_cons_zero, List.set_cons_succ, i64_w, i32_w]
    rfl
   refine pure_ (i := 12) (N := some 33) (v := ?_) (a' := ?_) (tf 13 9) rfl rfl (any_of HT_.out (by kernel_rfl)) (fun _ _ _ h => h) (Or.inl ⟨by rfl, ?_⟩) ?_ ?_
   rotate_left
   ·intro w'
    go_simp
    with_reducible rfl
   rotate_left
   ·simp only [Act.put, List.setIfInBounds_toArray, List.set_cons_zero, List.set_cons_succ, i64_w, i32_w]
    rfl
   refine one_ (i := 13) (N := some 34) (tf 14 8) rfl rfl (one_of HT_.out (by kernel_rfl)) (by decide) (fun K hK => ?_)
   refine value_ (w1 := ?_) (v := ?_) (by rfl) rfl ?_ ?_
   rotate_left 2
   ·go_simp
    constructor
    ·rfl
    ·rfl
   refine hK.out _ _ (hHeld) (fun hHeld => ?_)
   clear hK K
   refine norm_ (a' := ?_) ?_ ?_
   rotate_left
   ·show Act.put _ (some 34) _ = _
    simp only [Act.put, List.setIfInBounds_toArray, List.set_cons_zero, List.set_cons_succ, i64_w, i32_w]
    rfl
   refine pure_ (i := 14) (N := some 35) (v := ?_) (a' := ?_) (tf 15 7) rfl rfl (any_of HT_.out (by kernel_rfl)) (fun _ _ _ h => h) (Or.inl ⟨by rfl, ?_⟩) ?_ ?_
   rotate_left
   ·intro w'
    go_simp
    with_reducible rfl
   rotate_left
   ·simp only [Act.put, List.setIfInBounds_toArray, List.set_cons_zero, List.set_cons_succ, i64_w, i32_w]
    rfl
   refine one_ (i := 15) (N := some 36) (tf 16 6) rfl rfl (one_of HT_.out (by kernel_rfl)) (by decide) (fun K hK => ?_)
   refine Kd.R_make_step (Kd.int .i64) (w0 := w2) w2.heap.size 3 (by rfl) (N := 36) rfl 45 _ _ rfl (F.length : Int) rfl rfl Try.underlying45 (.int .i64 0) 8 infoInt rfl (by decide) (by decide) (0 : Int) (ok := fun _ => True) (okp := fun _ => True) rfl (fun _ h_ => h_) trivial (by omega) (by have := HLF.out; omega) (Below.refl _ _) (Nat.le_refl _) ?_
   intro v3 w3 hr3 hb3 hg3 hn3
   rw [Int.toNat_natCast] at hr3
   obtain ⟨A3, c3, e3⟩ := Kd.R_slice hr3
   rw [List.length_replicate] at e3
   subst e3
   have HR3 := Aside0.mk hr3
   have H3 := Aside0.mk (H2.out.below hb3)
   have HB3 := Aside0.mk hb3
   clear hg3 hn3 hr3
   refine hK.out _ _ ((blkB hHeld hb3)) (fun hHeld => ?_)
   clear hK K
   refine norm_ (a' := ?_) ?_ ?_
   rotate_left
   ·show Act.put _ (some 36) _ = _
    simp only [Act.put, List.setIfInBounds_toArray, List.set_cons_zero, List.set_cons_succ, i64_w, i32_w]
    rfl
   refine pure_ (i := 16) (N := some 37) (v := ?_) (a' := ?_) (tf 17 5) rfl rfl (any_of HT_.out (by kernel_rfl)) (fun _ _ _ h => h) (Or.inl ⟨by rfl, ?_⟩) ?_ ?_
   rotate_left
   ·intro w'
    go_simp
    with_reducible rfl
   rotate_left
   ·simp only [Act.put, List.setIfInBounds_toArray, List.set_cons_zero, List.set_cons_succ, i64_w, i32_w]
    rfl
   refine one_ (i := 17) (N := some 38) (tf 18 4) rfl rfl (one_of HT_.out (by kernel_rfl)) (by decide) (fun K hK => ?_)
   refine value_ (w1 := ?_) (v := ?_) (by rfl) rfl ?_ ?_
   rotate_left 2
   ·go_simp
    constructor
    ·rfl
    ·rfl
   refine hK.out _ _ ((blk_alloc hHeld _)) (fun hHeld => ?_)
   clear hK K
   refine norm_ (a' := ?_) ?_ ?_
   rotate_left
   ·show Act.put _ (some 38) _ = _
    simp only [Act.put, List.setIfInBounds_toArray, List.set_cons_zero, List.set_cons_succ, i64_w, i32_w]
    rfl
   refine one_ (i := 18) (N := some 39) (tf 19 3) rfl rfl (one_of HT_.out (by kernel_rfl)) (by decide) (fun K hK => ?_)
   refine Kd.S_append_step kOb (w0 := w3) base (by rfl) (.tmp 25) (.tmp 38) 70 77 (.agg #[.int .i64 0, .slice none 0 0]) 32 rfl Try.underlying70 infoUb rfl (by decide) (by decide) (.slice Al L.length cl) L ((n : Int), List.replicate F.length (0 : Int)) [.int .i64 n, .slice A3 F.length c3] (fun k => (k ≠ g ∧ ¬ sok k) ∧ (lok k ∨ w2.heap.size ≤ k)) (fun k => some k = (Value.slice A3 F.length c3).ownBlock) rfl rfl ?aP ?aK ?aF ?aO (Below.refl _ _) ?aS ?aL ?_
   case aP => exact kOb_mkM _ _ _ ((n : Int), List.replicate F.length (0 : Int)) (Kd.R_tight rfl (Kd.R_lower HR3.out (Nat.le_trans H2.out.low (Nat.le_of_lt (blk_lt H2.out.blk)))))
   case aK =>
    exact fun k hk => by
     have hge := Kd.R_base HR3.out k hk.symm
     refine ⟨⟨⟨fun e => ?_, fun e => ?_⟩, .inr hge⟩, fun e => ?_⟩
     ·have := blk_lt H2.out.blk; omega
     ·have := (H2.out.sap k e).2.2; omega
     ·have := (H2.out.lap k ((Kd.S_R H2.out.lst).1 k e.symm)).2.2; omega
   case aF =>
    exact fun k hk => by
     have hge := Nat.le_trans HB3.out.size hk
     refine ⟨⟨fun e => ?_, fun e => ?_⟩, .inr hge⟩
     ·have := blk_lt H2.out.blk; omega
     ·have := (H2.out.sap k e).2.2; omega
   case aO => exact Kd.S_mono H3.out.lst (fun k hk => ⟨⟨⟨(H2.out.lap k hk).1, fun e => (H2.out.sap k e).2.1 hk⟩, .inl hk⟩, fun e => by have := Kd.R_base HR3.out k e.symm; have := (H2.out.lap k hk).2.2; omega⟩)
   case aS => exact Nat.le_trans H3.out.low (Nat.le_of_lt (blk_lt H3.out.blk))
   case aL => omega
   intro v5 w5 ho5 _ hg5 _
   obtain ⟨hb6, lok', hq, hlo, hke, hbe⟩ := H3.out.appended ho5 hg5 (fun k hk => hk.1)
   rw [← HLX.out] at ho5 hq
   obtain ⟨Ax, cx, ex⟩ := Kd.S_slice ho5
   subst ex
   have HQ := Aside0.mk hq
   have HLO0 := Aside0.mk hlo
   have HKE0 := Aside0.mk hke
   have HBE0 := Aside0.mk hbe
   clear ho5 hg5 hq hlo hke hbe
   refine hK.out _ _ (hb6) (fun hHeld => ?_)
   clear hK K
   refine norm_ (a' := ?_) ?_ ?_
   rotate_left
   ·show Act.put _ (some 39) _ = _
    simp only [Act.put, List.setIfInBounds_toArray, List.set_cons_zero, List.set_cons_succ, i64_w, i32_w]
    rfl
   refine pure_ (i := 19) (N := some 40) (v := ?_) (a' := ?_) (tf 20 2) rfl rfl (any_of HT_.out (by kernel_rfl)) (fun _ _ _ h => h) (Or.inl ⟨by rfl, ?_⟩) ?_ ?_
   rotate_left
   ·intro w'
    go_simp
    with_reducible rfl
   rotate_left
   ·simp only [Act.put, List.setIfInBounds_toArray, List.set_cons_zero, List.set_cons_succ, i64_w, i32_w]
    rfl
   refine pure_ (i := 20) (N := some 41) (v := ?_) (a' := ?_) (tf 21 1) rfl rfl (any_of HT_.out (by kernel_rfl)) (fun _ _ _ h => h) (Or.inl ⟨by rfl, ?_⟩) ?_ ?_
   rotate_left
   ·intro w'
    go_simp
    with_reducible rfl
   rotate_left
   ·simp only [Act.put, List.setIfInBounds_toArray, List.set_cons_zero, List.set_cons_succ, i64_w, i32_w]
    rfl
   refine last_ (i := 21) (N := none) (tf 22 0) rfl rfl (one_of HT_.out (by kernel_rfl)) (by decide) (fun K hK => ?_)
   obtain ⟨y0, y1, z0, z1⟩ := bk2 hHeld
   refine skip_ (w1 := ?_) (by rfl) rfl ?_ ?_
   rotate_left
   ·go_simp
    rfl
   refine hK.out _ _ ?_
   clear hK K
   refine done_ (done_of HT_.out (by kernel_rfl)) ?_
   have HLO : Aside0 (∀ k, lok' k → lok k ∨ w.heap.size ≤ k) := ⟨fun k hk => (HLO0.out k hk).2.imp_right (fun h_ => Nat.le_trans HK2.out.size h_)⟩
   have HKE : Aside0 (Kept w (w5.setCell ⟨g, 1, none⟩ (.slice Ax Lx.length cx)) (Turns g lok)) := ⟨((Kept.of_below HK2.out (Turns g lok)).below HB3.out).then_ HKE0.out (fun k hk => .inl hk)⟩
   have HBE : Aside0 (Below base w (w5.setCell ⟨g, 1, none⟩ (.slice Ax Lx.length cx))) := ⟨((HK2.out.mono hbase).trans (HB3.out.mono (Nat.le_trans H2.out.low (Nat.le_of_lt (blk_lt H2.out.blk))))).trans HBE0.out⟩
   clear HLO0 HKE0 HBE0
   generalize w5.setCell ⟨g, 1, none⟩ (.slice Ax Lx.length cx) = w6 at HQ HKE HBE ⊢
   obtain ⟨x0, x1, _, _⟩ := bk2 HQ.out.blk
   go_wp2
   go_ret2
   have hz : zerosO S (n : Int) = List.replicate F.length 0 := by unfold zerosO; rw [← HFE.out]
   rw [hz, ← HLX.out]
   exact ⟨by rw [HLN.out]; rfl, _, _, HQ.out, HLO.out, HKE.out, HBE.out⟩
end
/-- The numbers of an object's links, of its first fields. -/
def lkF (fs : List S48) (F : List Int) : Nat → List Int
 | 0 => []
 | j + 1 => lkF fs F j ++ (if (elemS (fs.getD j z48).f1).1.toList = [] then [] else [rd F (j : Int)])
def linkF (S : List S43) (L : List (Int × List Int)) (x : Int) : List Int := lkF (rd_T43 S (rdO L (x - 1)).1).f1 (rdO L (x - 1)).2 (rd_T43 S (rdO L (x - 1)).1).f1.length
theorem lkF_len (fs : List S48) (F : List Int) : ∀ n, (lkF fs F n).length ≤ n
 | 0 => Nat.le_refl _
 | n + 1 => by
  unfold lkF
  have := lkF_len fs F n
  rw [List.length_append]
  split <;> simp <;> omega
theorem elemS_empty (t : ByteArray) : (elemS t).1.toList = [] ↔ (elemS t).2 = false := by
 unfold elemS
 by_cases h : ptrB t = true
 ·rw [if_pos h]
  constructor
  ·intro e
   unfold ptrB at h
   rw [Bool.and_eq_true] at h
   have hw := h.2
   unfold wordB nameB at hw
   have e : (rest t).toList = [] := e
   have e2 : (rest t).size = 0 := by
    rw [ByteArray.toList_eq] at e
    have := congrArg List.length e
    simpa using this
   rw [e2] at hw
   exact absurd hw (by simp)
  ·intro e; cases e
 ·rw [if_neg h]
  exact ⟨fun _ => rfl, fun _ => by rw [ByteArray.toList_eq]⟩
theorem lkF_mem (fs : List S48) (F : List Int) (y : Int) : ∀ n, y ∈ lkF fs F n ↔ ∃ j : Nat, j < n ∧ (elemS (fs.getD j z48).f1).2 = true ∧ y = rd F (j : Int)
 | 0 => ⟨fun h => (by cases h), fun ⟨j, h, _⟩ => (by omega)⟩
 | n + 1 => by
  have ih := lkF_mem fs F y n
  unfold lkF
  rw [List.mem_append, ih]
  constructor
  ·rintro (⟨j, h1, h2, h3⟩ | h)
   ·exact ⟨j, by omega, h2, h3⟩
   ·split at h
    ·cases h
    ·rename_i hne
     rw [List.mem_singleton] at h
     refine ⟨n, by omega, ?_, h⟩
     cases e : (elemS (fs.getD n z48).f1).2
     ·exact absurd ((elemS_empty _).mpr e) hne
     ·rfl
  ·rintro ⟨j, h1, h2, h3⟩
   by_cases e : j = n
   ·subst e
    refine .inr ?_
    rw [if_neg (fun q => by rw [elemS_empty, h2] at q; cases q), List.mem_singleton]
    exact h3
   ·exact .inl ⟨j, by omega, h2, h3⟩
theorem linksD_mem (fs : List S48) : ∀ d i : Nat, ∀ q : Int, q ∈ linksD fs d i ↔ ∃ j : Nat, i ≤ j ∧ j < i + d ∧ (elemS (fs.getD j z48).f1).2 = true ∧ q = (j : Int)
 | 0, i, q => ⟨fun h => (by cases h), fun ⟨j, h1, h2, _⟩ => (by omega)⟩
 | d + 1, i, q => by
  have ih := linksD_mem fs d (i + 1) q
  unfold linksD
  by_cases hb : (elemS (fs.getD i z48).f1).2 = true
  ·rw [if_pos hb, List.mem_cons, ih]
   constructor
   ·rintro (h | ⟨j, h1, h2, h3, h4⟩)
    ·exact ⟨i, by omega, by omega, hb, h⟩
    ·exact ⟨j, by omega, by omega, h3, h4⟩
   ·rintro ⟨j, h1, h2, h3, h4⟩
    by_cases e : j = i
    ·subst e; exact .inl h4
    ·exact .inr ⟨j, by omega, by omega, h3, h4⟩
  ·rw [if_neg hb, ih]
   constructor
   ·rintro ⟨j, h1, h2, h3, h4⟩; exact ⟨j, by omega, by omega, h3, h4⟩
   ·rintro ⟨j, h1, h2, h3, h4⟩
    by_cases e : j = i
    ·subst e; exact absurd h3 hb
    ·exact ⟨j, by omega, by omega, h3, h4⟩
theorem near_link {S : List S43} {L : List (Int × List Int)} {x y : Int} : y ∈ nearP S L x ↔ isO L y = true ∧ y ∈ linkF S L x := by
 rw [nearP_mem]
 unfold linkF linksL
 rw [lkF_mem]
 constructor
 ·rintro ⟨h, q, hq, e⟩
  obtain ⟨j, h1, h2, h3, rfl⟩ := (linksD_mem _ _ _ _).mp hq
  exact ⟨h, j, by omega, h3, e⟩
 ·rintro ⟨h, j, h1, h2, e⟩
  exact ⟨h, (j : Int), (linksD_mem _ _ _ _).mpr ⟨j, by omega, by omega, h2, rfl⟩, e⟩
def bfsQ (L : List (Int × List Int)) (nn : Int → List Int) : Nat → List Int → List Bool → Option (List Bool)
 | 0, _, _ => none
 | _ + 1, [], W => some W
 | k + 1, x :: t, W => if isO L x = true ∧ rdOf false W x = false then (if t.length + (nn x).length < LIMR then bfsQ L nn k (t ++ nn x) (W.set x.toNat true) else none) else bfsQ L nn k t W
/-- What the queue comes to. -/
structure Bf (L : List (Int × List Int)) (nn : Int → List Int) (todo : List Int) (W0 W : List Bool) : Prop where
 len : W.length = W0.length
 had : ∀ x, rdOf false W0 x = true → rdOf false W x = true
 root : ∀ x ∈ todo, isO L x = true → rdOf false W x = true
 shut : (∀ x, isO L x = true → rdOf false W0 x = true → ∀ y ∈ nn x, isO L y = true → rdOf false W0 y = true ∨ y ∈ todo) → ∀ x, isO L x = true → rdOf false W x = true → ∀ y ∈ nn x, isO L y = true → rdOf false W y = true
 least : ∀ T : Int → Prop, (∀ x, isO L x = true → rdOf false W0 x = true → T x) → (∀ x ∈ todo, isO L x = true → T x) → (∀ x, T x → isO L x = true → ∀ y ∈ nn x, isO L y = true → T y) → ∀ x, isO L x = true → rdOf false W x = true → T x
theorem bf_nil (L : List (Int × List Int)) (nn : Int → List Int) (W : List Bool) : Bf L nn [] W W :=
 ⟨rfl, fun _ h => h, fun x hx => absurd hx (by simp), fun hs x h1 h2 y hy h3 => (hs x h1 h2 y hy h3).resolve_right (by simp), fun T h1 _ _ x hx hb => h1 x hx hb⟩
theorem bit_set {W : List Bool} {x y : Int} (hx : x.toNat < W.length) : rdOf false (W.set x.toNat true) y = if y.toNat = x.toNat then true else rdOf false W y := by
 unfold rdOf
 by_cases e : y.toNat = x.toNat
 ·rw [if_pos e, e, List.getD_eq_getElem?_getD, List.getElem?_set_self hx, Option.getD_some]
 ·rw [if_neg e, List.getD_eq_getElem?_getD, List.getElem?_set_ne (by omega), ← List.getD_eq_getElem?_getD]
theorem isO_in {L : List (Int × List Int)} {x : Int} (h : isO L x = true) : 1 ≤ x ∧ x ≤ (L.length : Int) := of_decide_eq_true h
theorem bfs_run {L : List (Int × List Int)} {nn : Int → List Int} {B : Nat} (hB : ∀ x, isO L x = true → (nn x).length ≤ B) : ∀ (m : Nat) (todo : List Int) (W0 : List Bool), W0.count false * (B + 1) + todo.length ≤ m → m + B < LIMR → W0.length = L.length + 1 →
  ∃ W, (∀ k, m < k → bfsQ L nn k todo W0 = some W) ∧ Bf L nn todo W0 W := by
 intro m
 induction m with
 | zero =>
  intro todo W0 hm _ _
  have h0 : todo = [] := List.eq_nil_of_length_eq_zero (by omega)
  subst h0
  refine ⟨W0, fun k hk => ?_, bf_nil L nn W0⟩
  obtain ⟨k, rfl⟩ : ∃ q, k = q + 1 := ⟨k - 1, by omega⟩
  rfl
 | succ m ih =>
  intro todo W0 hm hM hl
  cases todo with
  | nil =>
   refine ⟨W0, fun k hk => ?_, bf_nil L nn W0⟩
   obtain ⟨k, rfl⟩ : ∃ q, k = q + 1 := ⟨k - 1, by omega⟩
   rfl
  | cons x t =>
   rw [List.length_cons] at hm
   by_cases hc : isO L x = true ∧ rdOf false W0 x = false
   ·have hn := hB x hc.1
    obtain ⟨i1, i2⟩ := isO_in hc.1
    have hx : x.toNat < W0.length := by omega
    have hat : W0[x.toNat] = false := by
     have := hc.2
     unfold rdOf at this
     rwa [getD_at _ _ hx] at this
    have hc1 : 1 ≤ W0.count false := List.one_le_count_iff.mpr (by rw [← hat]; exact List.getElem_mem hx)
    have hcs : (W0.set x.toNat true).count false + 1 = W0.count false := by
     rw [List.count_set hx, hat]
     simp
     omega
    have hmul : (W0.set x.toNat true).count false * (B + 1) + (B + 1) = W0.count false * (B + 1) := by rw [← hcs, Nat.add_mul, Nat.one_mul]
    obtain ⟨W, hr, cr⟩ := ih (t ++ nn x) (W0.set x.toNat true) (by rw [List.length_append]; omega) (by omega) (by rw [List.length_set]; exact hl)
    have hbx : rdOf false (W0.set x.toNat true) x = true := by rw [bit_set hx, if_pos rfl]
    have hup : ∀ y, rdOf false W0 y = true → rdOf false (W0.set x.toNat true) y = true := fun y hy => by
     rw [bit_set hx]
     split
     ·rfl
     ·exact hy
    have hdn : ∀ y, isO L y = true → rdOf false (W0.set x.toNat true) y = true → y = x ∨ rdOf false W0 y = true := fun y hy hb => by
     rw [bit_set hx] at hb
     have := isO_in hy
     by_cases e : y.toNat = x.toNat
     ·exact .inl (by omega)
     ·rw [if_neg e] at hb; exact .inr hb
    refine ⟨W, fun k hk => ?_, ⟨by rw [cr.len, List.length_set], fun y hy => cr.had y (hup y hy), fun y hy hF => ?_, fun hs => ?_, fun T h1 h2 h3 => ?_⟩⟩
    ·obtain ⟨k, rfl⟩ : ∃ q, k = q + 1 := ⟨k - 1, by omega⟩
     unfold bfsQ
     rw [if_pos hc, if_pos (by omega)]
     exact hr k (by omega)
    ·rcases List.mem_cons.mp hy with hy | hy
     ·rw [hy]; exact cr.had x hbx
     ·exact cr.root y (List.mem_append_left _ hy) hF
    ·refine cr.shut (fun y hy hb z hz hF => ?_)
     rcases hdn y hy hb with e | e
     ·rw [e] at hz; exact .inr (List.mem_append_right _ hz)
     ·rcases hs y hy e z hz hF with q | q
      ·exact .inl (hup z q)
      ·rcases List.mem_cons.mp q with q | q
       ·rw [q]; exact .inl hbx
       ·exact .inr (List.mem_append_left _ q)
    ·have hTx : T x := h2 x (by simp) hc.1
     refine cr.least T (fun y hy hb => ?_) (fun y hy hF => ?_) h3
     ·rcases hdn y hy hb with e | e
      ·rw [e]; exact hTx
      ·exact h1 y hy e
     ·rcases List.mem_append.mp hy with hy | hy
      ·exact h2 y (List.mem_cons_of_mem _ hy) hF
      ·exact h3 x hTx hc.1 y hy hF
   ·obtain ⟨W, hr, cr⟩ := ih t W0 (by omega) (by omega) hl
    have hxr : isO L x = true → rdOf false W0 x = true := fun hF => by
     cases e : rdOf false W0 x
     ·exact absurd ⟨hF, e⟩ hc
     ·rfl
    refine ⟨W, fun k hk => ?_, ⟨cr.len, cr.had, fun y hy hF => ?_, fun hs => ?_, fun T h1 h2 h3 => cr.least T h1 (fun y hy hF => h2 y (List.mem_cons_of_mem _ hy) hF) h3⟩⟩
    ·obtain ⟨k, rfl⟩ : ∃ q, k = q + 1 := ⟨k - 1, by omega⟩
     unfold bfsQ
     rw [if_neg hc]
     exact hr k (by omega)
    ·rcases List.mem_cons.mp hy with hy | hy
     ·rw [hy] at hF ⊢; exact cr.had x (hxr hF)
     ·exact cr.root y hy hF
    ·refine cr.shut (fun y hy hb z hz hF => ?_)
     rcases hs y hy hb z hz hF with q | q
     ·exact .inl q
     ·rcases List.mem_cons.mp q with q | q
      ·rw [q] at hF ⊢; exact .inl (hxr hF)
      ·exact .inr q
/-- The document's row tells just who is reached. -/
theorem bf_same {S : List S43} {L : List (Int × List Int)} {l out : List Int} {W : List Bool} (hc : Came (isO L) (nearP S L) l [] out) (hb : Bf L (linkF S L) l (List.replicate (L.length + 1) false) W) (x : Int) (hx : isO L x = true) : rdOf false W x = true ↔ x ∈ out := by
 have h0 : ∀ y, rdOf false (List.replicate (L.length + 1) false) y = false := fun y => by
  unfold rdOf
  rw [List.getD_eq_getElem?_getD, List.getElem?_replicate]
  split <;> rfl
 have hs := hc.shut (fun x hx => absurd hx (by simp))
 constructor
 ·intro hW
  refine hb.least (fun x => x ∈ out) (fun y _ q => by rw [h0] at q; cases q) (fun y hy hF => hc.root y hy hF) (fun y hy _ z hz hF => hs y hy z (near_link.mpr ⟨hF, hz⟩)) x hx hW
 ·intro hx2
  have hsh := hb.shut (fun y _ q => by rw [h0] at q; cases q)
  exact hc.least (fun x => rdOf false W x = true) (fun y hy => absurd hy (by simp)) (fun y hy hF => hb.root y hy hF) (fun y hy hF z hz => by
   obtain ⟨z1, z2⟩ := near_link.mp hz
   exact hsh y hF hy z z2 z1) x hx2
theorem infoBo : (Try.prog.info? 4).map (fun i => (i.zero, i.size, i.bytes)) = some (some (.bool false), Kd.bool.sz, 1) := by kernel_rfl
/-- A bit of a row is written. -/
theorem bitR {e base b n c : Nat} {W : World} {ok : Nat → Prop} {xs : List Bool} (h : Kd.bool.R e W base ok (.slice (some ⟨b, 0, none⟩) n c) xs) (x : Int) (h0 : 0 ≤ x) (h1 : x < (n : Int)) : W.cell? ⟨b, x.toNat, none⟩ = some (.bool (rdOf false xs x)) ∧ W.frozen? ⟨b, x.toNat, none⟩ = false ∧
  Kd.bool.R e (W.setCell ⟨b, x.toNat, none⟩ (.bool true)) base ok (.slice (some ⟨b, 0, none⟩) n c) (xs.set x.toNat true) ∧ W.grownBy (W.setCell ⟨b, x.toNat, none⟩ (.bool true)) (some b) := by
 obtain ⟨c2, hc2, hM2, hcc2, hfz⟩ := Kd.R_elem h false x h0 h1
 have hM2' : c2 = [.bool (xs.getD x.toNat false)] := hM2
 have hcl2 := hcc2 0 _ (by rw [hM2']; rfl)
 have hfz2 := hfz 0
 have e1 : x.toNat * Kd.bool.sz + 0 = x.toNat := by show x.toNat * 1 + 0 = x.toNat; omega
 rw [e1] at hcl2 hfz2
 obtain ⟨q1, q2⟩ := Kd.R_putg (enc := Value.bool) h x true
 exact ⟨hcl2, hfz2, q1, q2⟩
theorem linkF_len {S : List S43} (L : List (Int × List Int)) (hS : ∀ x ∈ S, x.f1.length ≤ 1000) (x : Int) : (linkF S L x).length ≤ 1000 := by
 unfold linkF
 refine Nat.le_trans (lkF_len _ _ _) ?_
 unfold rd_T43
 by_cases hj : (rdO L (x - 1)).1.toNat < S.length
 ·rw [getD_at _ _ hj]; exact hS _ (List.getElem_mem hj)
 ·rw [List.getD_eq_getElem?_getD, List.getElem?_eq_none (by omega)]; decide
section
variable {base g : Nat} {w : World} {sv lv : Value} {S : List S43} {L : List (Int × List Int)} {sok lok : Nat → Prop}
set_option maxRecDepth 100000 in
set_option maxHeartbeats 16000000 in
theorem ref_Reach.calls (k : Nat) (A0 : Option Addr) (c0 : Nat) (l0 : List Int) (Wr : List Bool) (h : HU w base g sv lv S L sok lok) (hk : OkL S L) (hs : RS S) (hr0 : (Kd.int .i64).C w A0 l0.length l0) (hc0 : l0.length ≤ c0) (hl : l0.length ≤ 1000000) (hq : bfsQ L (linkF S L) k l0 (List.replicate (L.length + 1) false) = some Wr) :
  Calls Try.prog 46 #[ptr g, .slice A0 l0.length c0] w fun e w' => ∃ v0, e = .returned v0 ∧ Kd.bool.R 4 w' w.heap.size (fun _ => True) v0 Wr ∧ Below w.heap.size w w' := by
 have hLl := hk.len
 have H := Aside0.mk h; have HOK := Aside0.mk hk; have HRS := Aside0.mk hs; have HR0 := Aside0.mk hr0; have HC0 := Aside0.mk hc0; have HQ := Aside0.mk hq
 obtain ⟨Al, cl, rfl, hcl, hm⟩ := h.list
 obtain ⟨q0, q1, _, _⟩ := bk2 h.blk
 have hwl : IntKind.i64.wrap ((L.length : Int) + 1) = (L.length : Int) + 1 := by rw [IntKind.wrap_i64]; omega
 clear h hk hs hr0 hc0 hq hcl
 go_enter Try.func46, Try.ntmps46
 go_wp2_with (first | ((with_reducible refine gate_dst (N := 17) rfl ?_); refine Kd.R_make (w0 := w) Kd.bool w.heap.size 4 rfl (N := 17) rfl 39 _ _ rfl ((L.length : Int) + 1) rfl rfl Try.underlying39 (.bool false) 1 infoBo rfl (by decide) (by decide) false (ok := fun _ => True) (okp := fun _ => False) (show Kd.M Kd.bool _ _ _ false [.bool false] from rfl) (fun _ hk => hk.elim) trivial (by omega) ?aN (Below.refl _ _) (Nat.le_refl _) ?_; (case aN => omega); intro v1 w1 hR1 hb1 hg1 hn1; (rw [show ((L.length : Int) + 1).toNat = L.length + 1 by omega] at hR1); have HR1 := Aside0.mk hR1; have HB1 := Aside0.mk hb1; clear hR1 hb1 hg1 hn1) | ((with_reducible refine gate_dst (N := 18) rfl ?_); refine Kd.R_lit (Kd.int .i64) (w0 := w) w.heap.size 3 ?hg (N := 18) ?hd (xs := ([] : List Int)) (inner := []) (ok := fun k => some k ≠ v1.ownBlock) (okp := fun _ => False) ?hr ?hp (fun _ hk => hk.elim) ?hf HB1.out HB1.out.size (by simp) ?_; (case hd => rfl); (case hg => rfl); (case hr => first | (go_simp; done) | (go_simp; rfl)); (case hp => exact Reps.none _ _); (case hf => exact fun e => by have := Kd.R_lt HR1.out _ e.symm; omega); intro v2 w2 ho2 hb2 hg2 hn2; have HT2 := Aside0.mk ho2; have HB2 := Aside0.mk hb2; have HR2 : Aside0 (Kd.bool.R 4 w2 w.heap.size (fun _ => True) v1 (List.replicate (L.length + 1) false)) := ⟨Kd.R_grown HR1.out hg2 (fun k _ e => by cases e)⟩; clear ho2 hb2 hg2 hn2))
 obtain ⟨b, cw, ev, hb0, hb1, _⟩ := Kd.R_form HR2.out (by rw [List.length_replicate]; omega)
 rw [List.length_replicate] at ev
 subst ev
 obtain ⟨R0, hR0⟩ : ∃ R0, R0 = List.replicate (L.length + 1) false := ⟨_, rfl⟩
 have HR0L : Aside0 (R0.length = L.length + 1) := ⟨by rw [hR0, List.length_replicate]⟩
 rw [← hR0] at HR2 HQ
 have HW : Aside0 (Kd.bool.R 4 w2 w.heap.size (fun k => k = b) (.slice (some ⟨b, 0, none⟩) (L.length + 1) cw) R0) := ⟨Kd.R_mono (Kd.R_tight rfl HR2.out) (fun k hk => by have h_ : some k = some b := hk; injection h_)⟩
 have HT : Aside0 ((Kd.int .i64).Q 3 w2 w.heap.size (fun k => k ≠ b) v2 []) := ⟨Kd.Q_mono (Kd.Q_of_R HT2.out) (fun k hk e => hk (by rw [e]; rfl))⟩
 have HBL : Aside0 (w.heap.size ≤ b) := ⟨hb0⟩
 clear HR1 HB1 HT2 HR2 hb0 hb1 hR0
 go_loopw [6, 7] (fun v6 v7 wr => ∃ i : Nat, v7 = .int .i64 i ∧ i ≤ l0.length ∧ Aside0 ((Kd.int .i64).Q 3 wr w.heap.size (fun k => k ≠ b) v6 (l0.take i)) ∧ Aside0 (Kd.bool.R 4 wr w.heap.size (fun k => k = b) (.slice (some ⟨b, 0, none⟩) (L.length + 1) cw) R0) ∧ Aside0 (Below w.heap.size w wr)) (fun _ v7 _ => l0.length - (intOf v7).toNat)
 case atStart => exact ⟨0, rfl, Nat.zero_le _, ⟨by rw [List.take_zero]; exact HT.out⟩, HW, HB2⟩
 case round =>
  clear HT HW HB2
  obtain ⟨i, rfl, hi, HT, HW, HB⟩ := hrel
  by_cases hlt : i < l0.length
  ·have hlti : (i : Int) < (l0.length : Int) := by omega
   obtain ⟨a0, e0, hx0⟩ := Kd.at_int (Kd.C_below HR0.out HB.out) (i : Int) (by omega) (by omega)
   subst e0
   simp only [Int.toNat_natCast] at hx0
   obtain ⟨x, hx⟩ : ∃ x, x = rd l0 (i : Int) := ⟨_, rfl⟩
   rw [← hx] at hx0
   have HTN : Aside0 (l0.take (i + 1) = l0.take i ++ [x]) := ⟨by rw [take_nextI l0 0 hlt, hx]; unfold rd; rw [Int.toNat_natCast]⟩
   obtain ⟨tk, htk⟩ : ∃ tk, tk = l0.take i := ⟨_, rfl⟩
   have HTL : Aside0 (tk.length ≤ 1000000) := ⟨by rw [htk, List.length_take]; omega⟩
   rw [← htk] at HT HTN
   clear hx htk
   go_wp2_with (at_builtin; refine Kd.Q_append (Kd.int .i64) (w0 := w) w.heap.size rfl (.tmp 25) (.tmp 30) 45 3 (.int .i64 0) 8 rfl Try.underlying45 infoIn rfl (by decide) (by decide) _ tk x [.int .i64 x] (fun k => k ≠ b) (fun _ => False) rfl rfl ?aP (fun _ hk => hk.elim) ?aF HT.out HB.out HB.out.size ?aL ?_)
   case aP => exact rfl
   case aF => exact fun k hk e => by have := Kd.R_lt HW.out b rfl; omega
   case aL => have := HTL.out; omega
   intro v5 w5 hq5 hb5 hg5 hat5
   have HB5 := Aside0.mk hb5
   have HT5 : Aside0 ((Kd.int .i64).Q 3 w5 w.heap.size (fun k => k ≠ b) v5 (l0.take (i + 1))) := ⟨by rw [HTN.out]; exact hq5⟩
   have HW5 := Aside0.mk (Kd.R_grown HW.out hg5 (fun k hk e => HT.out.1 k e.symm hk))
   clear hq5 hb5 hg5 hat5 HT HW HB
   go_wp2
   go_roundw
   case rel => exact ⟨i + 1, by go_num, by omega, HT5, HW5, HB5⟩
   case measure => simp [intOf]; omega
  ·obtain rfl : i = l0.length := by omega
   rw [List.take_length] at HT
   go_wp2_with fail
   go_loopg [6, 8, 9, 10] k (fun kq v6 _ _ _ wr => ∃ (todo : List Int) (W : List Bool), Aside0 (bfsQ L (linkF S L) kq todo W = some Wr) ∧ Aside0 (W.length = L.length + 1) ∧ Aside0 ((Kd.int .i64).Q 3 wr w.heap.size (fun k => k ≠ b) v6 todo) ∧ Aside0 (Kd.bool.R 4 wr w.heap.size (fun k => k = b) (.slice (some ⟨b, 0, none⟩) (L.length + 1) cw) W) ∧ Aside0 (Below w.heap.size w wr))
   case atStart => exact ⟨l0, R0, HQ, HR0L, HT, HW, HB⟩
   case round =>
    clear HQ HT HW HB HR0L
    obtain ⟨todo, W, HQ, HWL, HT, HW, HB⟩ := hrel
    cases gk with
    | zero => exact absurd HQ.out (by simp [bfsQ])
    | succ kq =>
    obtain ⟨A, c, rfl, hc, hC⟩ := Kd.Q_reads HT.out
    cases todo with
    | nil =>
     have hW : W = Wr := by have := HQ.out; simpa [bfsQ] using this
     subst hW
     clear hC hc HT
     simp only [List.length_nil]
     go_wp2
     go_ret
     exact ⟨_, rfl, Kd.R_mono HW.out (fun _ _ => trivial), HB.out⟩
    | cons x t =>
     obtain ⟨ad, ea, hx0⟩ := Kd.at_int hC 0 (by omega) (by simp)
     cases ea
     have hx1 : wr.cell? ad = some (.int .i64 x) := by rw [show (0 : Int).toNat = 0 from rfl, Addr.add_zero'] at hx0; exact hx0
     obtain ⟨A2, c2, hcut, hq2⟩ := cut_queue (P := Try.prog) (t := 45) (e := 3) Try.underlying45 (by kernel_rfl) HT.out
     have HT2 := Aside0.mk hq2
     have hq := HQ.out
     unfold bfsQ at hq
     obtain ⟨q0, q1, _, _⟩ := bk2 (H.out.below HB.out).blk
     clear hC hx0 hq2 HT HQ hc
     by_cases h1 : x < 1
     ·have d1 : decide (x < 1) = true := decide_eq_true h1
      rw [if_neg (fun q => by have := isO_in q.1; omega)] at hq
      have HQ2 := Aside0.mk hq; clear hq
      go_wp2
      go_roundg kq
      case rel => exact ⟨t, W, HQ2, HWL, HT2, HW, HB⟩
      case measure => omega
     ·have d1 : decide (x < 1) = false := decide_eq_false h1
      by_cases h2 : x > (L.length : Int)
      ·have d2 : decide (x > (L.length : Int)) = true := decide_eq_true h2
       rw [if_neg (fun q => by have := isO_in q.1; omega)] at hq
       have HQ2 := Aside0.mk hq; clear hq
       go_wp2
       go_roundg kq
       case rel => exact ⟨t, W, HQ2, HWL, HT2, HW, HB⟩
       case measure => omega
      ·have d2 : decide (x > (L.length : Int)) = false := decide_eq_false h2
       obtain ⟨p, rfl⟩ : ∃ p : Nat, x = p := ⟨x.toNat, by omega⟩
       obtain ⟨b0, b1, b2, b3⟩ := bitR HW.out (p : Int) (by omega) (by omega)
       simp only [Int.toNat_natCast] at b0 b1 b2 b3
       have hpl : (p : Int) < ((L.length : Int) + 1) := by omega
       have hpl2 : p < L.length + 1 := by omega
       have hF : isO L (p : Int) = true := decide_eq_true (by omega)
       cases hbit : rdOf false W (p : Int) with
       | true =>
        rw [hbit] at b0
        rw [if_neg (fun q => by rw [hbit] at q; cases q.2)] at hq
        have HQ2 := Aside0.mk hq; clear hq b2 b3 hbit
        go_wp2
        go_roundg kq
        case rel => exact ⟨t, W, HQ2, HWL, HT2, HW, HB⟩
        case measure => omega
       | false =>
        rw [hbit] at b0
        rw [if_pos ⟨hF, hbit⟩] at hq
        by_cases hlim : t.length + (linkF S L (p : Int)).length < LIMR
        case neg => rw [if_neg hlim] at hq; cases hq
        rw [if_pos hlim, Int.toNat_natCast] at hq
        have HQ2 := Aside0.mk hq; have HLIM := Aside0.mk hlim
        have HW3 := Aside0.mk b2
        have HT3 := Aside0.mk (Kd.Q_far HT2.out (p := ⟨b, p, none⟩) (fun k hk => hk) (.bool true))
        have HB3 := Aside0.mk (HB.out.setCell (p := ⟨b, p, none⟩) HBL.out (.bool true))
        have HWL3 : Aside0 ((W.set p true).length = L.length + 1) := ⟨by rw [List.length_set]; exact HWL.out⟩
        clear hq hlim hbit b2 b3 HT2 HW HB HWL hF
        go_wp2_with fail
        generalize wr.setCell ⟨b, p, none⟩ (.bool true) = w3 at HW3 HT3 HB3 ⊢
        obtain ⟨n, hpn⟩ : ∃ n : Nat, p = n + 1 := ⟨p - 1, by omega⟩
        have en : (p : Int) - 1 = n := by omega
        have hw : IntKind.i64.wrap ((p : Int) - 1) = n := by rw [en, IntKind.wrap_i64]; omega
        have hn : n < L.length := by omega
        have hnl : (n : Int) < (L.length : Int) := by omega
        obtain ⟨o, ho⟩ : ∃ o, o = rdO L (n : Int) := ⟨_, rfl⟩
        have HOO := Aside0.mk ho
        obtain ⟨o0, o1, o2, _⟩ := HOK.out.all _ (HOK.out.at (i := (n : Int)) (by omega) (by omega))
        rw [← ho] at o0 o1 o2
        obtain ⟨m, hm'⟩ : ∃ m : Nat, o.1 = m := ⟨o.1.toNat, by omega⟩
        rw [hm'] at o1 o2
        obtain ⟨y, hy⟩ : ∃ y, y = rd_T43 S (m : Int) := ⟨_, rfl⟩
        rw [← hy] at o2
        have HLF : Aside0 (linkF S L (p : Int) = lkF y.f1 o.2 y.f1.length) := ⟨by unfold linkF; rw [en, ← ho, hm', ← hy]⟩
        have HO2 := Aside0.mk o2
        have HYL : Aside0 (y.f1.length ≤ 1000) := ⟨HRS.out.fields y (by rw [hy]; unfold rd_T43; rw [getD_at _ _ (by omega)]; exact List.getElem_mem _)⟩
        rw [HLF.out] at HLIM HQ2
        obtain ⟨adL, clL, Ao, co, hA, hclL, q2, q3, hoc, hCo⟩ := H.out.elem (n : Int) (by omega) (by omega)
        cases hA
        rw [← ho] at hoc hCo q2 q3
        have HCO := Aside0.mk hCo; have HOC := Aside0.mk hoc
        obtain ⟨As, cs, hsv, hlcs, hCS⟩ := H.out.structs
        subst hsv
        obtain ⟨sd, B1, d1, e2, s0, s1, hld, hCd⟩ := at_T43 hCS (m : Int) (by omega) (by omega)
        subst e2
        rw [← hy] at hld hCd s0 s1
        have HCD := Aside0.mk hCd; have HLD := Aside0.mk hld
        clear hCo hoc hCS hld hCd hclL
        obtain ⟨q0, q1, _, _⟩ := bk2 (H.out.below HB3.out).blk
        simp only [Int.toNat_natCast] at q2 q3 s0 s1
        rw [hm'] at q2
        replace q2 := pw_cell_below HB3.out q2
        have HQ3 := Aside0.mk q3
        replace q3 := pw_cell_below HB3.out q3
        replace s0 := pw_cell_below HB3.out s0
        replace s1 := pw_cell_below HB3.out s1
        have hsm : S.length ≤ 9223372036854775807 := by have := HRS.out.len; omega
        clear hy o2 hpn en ho hm'
        go_quiet (fail)
        have HT4 : Aside0 ((Kd.int .i64).Q 3 (w3.drewN nq) w.heap.size (fun k => k ≠ b) (.slice A2 t.length c2) t) := ⟨Kd.Q_drewN HT3.out nq⟩
        have HW4 : Aside0 (Kd.bool.R 4 (w3.drewN nq) w.heap.size (fun k => k = b) (.slice (some ⟨b, 0, none⟩) (L.length + 1) cw) (W.set p true)) := ⟨Kd.R_drewN HW3.out nq⟩
        have HB4 : Aside0 (Below w.heap.size w (w3.drewN nq)) := ⟨pw_below_drewN HB3.out nq⟩
        clear q0 q1 q2 q3 s0 s1 HT3 HW3 HB3 hcut b0 b1 hx1
        generalize w3.drewN nq = w4 at HT4 HW4 HB4 ⊢
        have hyl : y.f1.length ≤ 9223372036854775807 := by have := HYL.out; omega
        go_wp2_with fail
        go_loopw [6, 10] (fun v6 v10 wr => ∃ j : Nat, v10 = .int .i64 j ∧ j ≤ y.f1.length ∧ Aside0 ((Kd.int .i64).Q 3 wr w.heap.size (fun k => k ≠ b) v6 (t ++ lkF y.f1 o.2 j)) ∧ Aside0 (Kd.bool.R 4 wr w.heap.size (fun k => k = b) (.slice (some ⟨b, 0, none⟩) (L.length + 1) cw) (W.set p true)) ∧ Aside0 (Below w.heap.size w wr)) (fun _ v10 _ => y.f1.length - (intOf v10).toNat)
        case atStart => exact ⟨0, rfl, Nat.zero_le _, ⟨by unfold lkF; rw [List.append_nil]; exact HT4.out⟩, HW4, HB4⟩
        case round =>
         clear HT4 HW4 HB4
         obtain ⟨j, rfl, hj, HTj, HWj, HBj⟩ := hrel
         by_cases hjl : j < y.f1.length
         ·have hjli : (j : Int) < (y.f1.length : Int) := by omega
          obtain ⟨fd, e3, f0, f1⟩ := at_T48 (Kd.C_below HCD.out HBj.out) (j : Int) (by omega) (by omega)
          subst e3
          simp only [Int.toNat_natCast] at f0 f1
          obtain ⟨ty, hty⟩ : ∃ ty, ty = (rd_T48 y.f1 (j : Int)).f1 := ⟨_, rfl⟩
          rw [← hty] at f1
          obtain ⟨es, hes⟩ : ∃ es, es = (elemS ty).1 := ⟨_, rfl⟩
          have HLK : Aside0 (lkF y.f1 o.2 (j + 1) = lkF y.f1 o.2 j ++ (if es.toList = [] then [] else [rd o.2 (j : Int)])) := ⟨by
           rw [hes, hty]
           unfold rd_T48
           rw [Int.toNat_natCast]
           rfl⟩
          obtain ⟨ke, hke⟩ := (relem_ev ty).rounds
          rw [← hes] at hke
          have HKE := Aside0.mk hke
          clear hes hty hke f0
          go_wp2_with fail
          refine (truantref03_Elem.calls ke ty es wr HKE.out).mono ?_
          rintro e w5 ⟨rfl, hb5⟩
          have HB5 := Aside0.mk (below_step HBj.out hb5); have HT5 := Aside0.mk (Kd.Q_below HTj.out hb5); have HW5 := Aside0.mk (Kd.R_below HWj.out hb5)
          clear hb5 f1 HTj HWj HBj HKE
          by_cases hem : es.toList = []
          ·have hne : (es.toList == ([] : List UInt8)) = true := by rw [hem]; rfl
           have hne2 : (es.toList != ([] : List UInt8)) = false := by rw [hem]; rfl
           have HT6 : Aside0 ((Kd.int .i64).Q 3 w5 w.heap.size (fun k => k ≠ b) u6 (t ++ lkF y.f1 o.2 (j + 1))) := ⟨by rw [HLK.out, if_pos hem, List.append_nil]; exact HT5.out⟩
           clear HT5 HLK
           go_wp2
           go_roundw
           case rel => exact ⟨j + 1, by go_num, by omega, HT6, HW5, HB5⟩
           case measure => simp [intOf]; omega
          ·have hne : (es.toList == ([] : List UInt8)) = false := beq_eq_false_iff_ne.mpr hem
           have hne2 : (es.toList != ([] : List UInt8)) = true := by rw [bne, hne]; rfl
           obtain ⟨z, hz⟩ : ∃ z, z = rd o.2 (j : Int) := ⟨_, rfl⟩
           have HLK2 : Aside0 (t ++ lkF y.f1 o.2 (j + 1) = (t ++ lkF y.f1 o.2 j) ++ [z]) := ⟨by rw [HLK.out, if_neg hem, ← hz, List.append_assoc]⟩
           have HTL : Aside0 ((t ++ lkF y.f1 o.2 j).length ≤ 2000000000000) := ⟨by
            have h5 := lkF_len y.f1 o.2 j
            have h6 := lkF_len y.f1 o.2 y.f1.length
            have h7 := HLIM.out
            have h8 := HYL.out
            unfold LIMR at h7
            rw [List.length_append]; omega⟩
           have hj2 : (j : Int) < (o.2.length : Int) := by have := HO2.out; omega
           obtain ⟨ak, eak, hkc⟩ := Kd.at_int (Kd.C_below HCO.out HB5.out) (j : Int) (by omega) (by omega)
           simp only [Int.toNat_natCast] at hkc
           rw [← hz] at hkc
           obtain ⟨q0, q1, _, _⟩ := bk2 (H.out.below HB5.out).blk
           have q3 := pw_cell_below HB5.out HQ3.out
           rw [eak] at q3
           have hom : o.2.length ≤ 9223372036854775807 := by have := HO2.out; have := HYL.out; omega
           clear hz HLK eak
           go_wp2_with (at_builtin; refine Kd.Q_append (Kd.int .i64) (w0 := w) w.heap.size rfl (.tmp 89) (.tmp 102) 45 3 (.int .i64 0) 8 rfl Try.underlying45 infoIn rfl (by decide) (by decide) _ (t ++ lkF y.f1 o.2 j) z [.int .i64 z] (fun k => k ≠ b) (fun _ => False) rfl rfl ?aP (fun _ hk => hk.elim) ?aF HT5.out HB5.out HB5.out.size ?aL ?_)
           case aP => exact rfl
           case aF => exact fun k hk e => by have := Kd.R_lt HW5.out b rfl; omega
           case aL => have := HTL.out; omega
           intro v7 w7 hq7 hb7 hg7 hat7
           have HB7 := Aside0.mk hb7
           have HT7 : Aside0 ((Kd.int .i64).Q 3 w7 w.heap.size (fun k => k ≠ b) v7 (t ++ lkF y.f1 o.2 (j + 1))) := ⟨by rw [HLK2.out, List.append_assoc]; exact hq7⟩
           have HW7 := Aside0.mk (Kd.R_grown HW5.out hg7 (fun k hk e => HT5.out.1 k e.symm hk))
           clear hq7 hb7 hg7 hat7 HT5 HW5 HB5 q0 q1 q3 hkc
           go_wp2
           go_roundw
           case rel => exact ⟨j + 1, by go_num, by omega, HT7, HW7, HB7⟩
           case measure => simp [intOf]; omega
         ·obtain rfl : j = y.f1.length := by omega
          go_wp2
          go_roundg kq
          case rel => exact ⟨_, _, HQ2, HWL3, HTj, HWj, HBj⟩
          case measure => omega
end
def RX (l0 : List S43) (l1 : List S58) (p q : Int × Int) : Prop := p = q ∧ RS l0 ∧ ∀ x ∈ l1, -9223372036854775808 ≤ x.f4 ∧ x.f4 ≤ 9223372036854775807
noncomputable def truantlaw06_HeapExact.f (k : Nat) (l0 : List (S43)) (l1 : List (S58)) (l2 : List Int) : Option (Bool) :=
 (truantlaw06_great.f k l0).bind fun gr => if gr = true then some true else if (l1.length : Int) > 80 then some true else if (l2.length : Int) > 20 then some true else (kind_Check.f k l0).bind fun p => (truantref03_Check.f k l0).bind fun q => if decB (RX l0 l1 p q) = true then some true else none
theorem decB_ofX {p : Prop} (h : decB p = true) : p := Classical.byContradiction fun q => by rw [decB_false q] at h; cases h
theorem heapSt : Kd.Heap k43 := Kd.heap_iso _ (Kd.heap_pair Kd.heap_string (Kd.heap_slice 48 (Kd.heap_iso _ (Kd.heap_pair Kd.heap_string Kd.heap_string))))
def truantlaw06_HeapExact.T26 : Bool × List (List Nat × List Nat) := (true, [([], []), ([], []), ([1], [1]), ([], []), ([3], [3]), ([], []), ([5], [5]), ([0, 2, 4, 6], [0, 2, 4, 6]), ([], []), ([], []), ([9], [9]), ([], []), ([11], [11]), ([], []), ([13], [13]), ([8, 10, 12, 14, 7], [8, 10, 12, 14]), ([7, 15], [7, 15])])
def truantlaw06_HeapExact.B26 : List Nat := [0, 0, 2, 0, 8, 0, 32, 127, 0, 0, 512, 0, 2048, 0, 8192, 32767, 65535]
theorem truantlaw06_HeapExact.tab26 : rtab .any (opsOf Try.f8 26) = truantlaw06_HeapExact.T26 := by kernel_rfl
theorem truantlaw06_HeapExact.bits26 : waitsOk truantlaw06_HeapExact.T26.2 truantlaw06_HeapExact.B26 = true := by kernel_rfl
def truantlaw06_HeapExact.T36 : Bool × List (List Nat × List Nat) := (true, [([], []), ([], []), ([0, 1], [0, 1]), ([2], [2]), ([3], [3]), ([3], [3]), ([4, 5, 3], [3, 4, 5]), ([3, 6], [3, 6]), ([7, 3], [7]), ([8], [8]), ([9, 8, 8], [8, 9]), ([8], [8]), ([11, 8], [8, 11]), ([12, 8], [8, 12]), ([13, 8], [8, 13]), ([14, 8], [8, 14]), ([10, 15, 8], [8, 10, 15]), ([8, 16], [8, 16])])
def truantlaw06_HeapExact.B36 : List Nat := [0, 0, 3, 7, 15, 15, 63, 127, 255, 511, 1023, 511, 2559, 6655, 14847, 31231, 65535, 131071]
theorem truantlaw06_HeapExact.tab36 : rtab .any (opsOf Try.f8 36) = truantlaw06_HeapExact.T36 := by kernel_rfl
theorem truantlaw06_HeapExact.bits36 : waitsOk truantlaw06_HeapExact.T36.2 truantlaw06_HeapExact.B36 = true := by kernel_rfl
def truantlaw06_HeapExact.T41 : Bool × List (List Nat × List Nat) := (true, [([], []), ([], []), ([1], [1]), ([0, 2], [0, 2]), ([], []), ([], []), ([5], [5]), ([6], [6]), ([7], [7]), ([], []), ([8, 9], [8, 9]), ([10], [10]), ([11], [11]), ([4, 12], [4, 12]), ([13], [13]), ([14], [14]), ([3, 15], [3, 15])])
def truantlaw06_HeapExact.B41 : List Nat := [0, 0, 2, 7, 0, 0, 32, 96, 224, 0, 992, 2016, 4064, 8176, 16368, 32752, 65535]
theorem truantlaw06_HeapExact.tab41 : rtab .any (opsOf Try.f8 41) = truantlaw06_HeapExact.T41 := by kernel_rfl
theorem truantlaw06_HeapExact.bits41 : waitsOk truantlaw06_HeapExact.T41.2 truantlaw06_HeapExact.B41 = true := by kernel_rfl
set_option maxRecDepth 100000 in
set_option maxHeartbeats 16000000 in
theorem HeapExact.nil (k : Nat) (A0 : Option Addr) (c0 : Nat) (l0 : List (S43)) (A1 : Option Addr) (c1 : Nat) (l1 : List (S58)) (A2 : Option Addr) (c2 : Nat) (l2 : List Int) (r1 r2 : Int) (w : World) (hr0 : Kd.C k43 w A0 l0.length l0) (hc0 : l0.length ≤ c0) (hr1 : Kd.C k58 w A1 l1.length l1) (hc1 : l1.length ≤ c1) (hr2 : Kd.C (Kd.int .i64) w A2 l2.length l2) (hc2 : l2.length ≤ c2)
  (hg : truantlaw06_great.f k l0 = some false) (hlen : ¬ (l1.length : Int) > 80) (hlen2 : ¬ (l2.length : Int) > 20) (hck : kind_Check.f k l0 = some (r1, r2)) (hrk : truantref03_Check.f k l0 = some (r1, r2)) (hne : (r2 != 0) = true) :
  Calls Try.prog 8 #[.slice A0 l0.length c0, .slice A1 l1.length c1, .slice A2 l2.length c2] w fun e w' => e = .returned (.bool true) ∧ Below w.heap.size w w' := by
 have HR0 := Aside0.mk hr0; have HC0 := Aside0.mk hc0; have HGR := Aside0.mk hg; have HCK := Aside0.mk hck; have HRK := Aside0.mk hrk; have HNE := Aside0.mk hne
 have hdl : decide ((l1.length : Int) > 80) = false := decide_eq_false hlen
 have hdl2 : decide ((l2.length : Int) > 20) = false := decide_eq_false hlen2
 clear hr0 hc0 hr1 hc1 hr2 hc2 hg hck hrk hlen hlen2
 go_enter Try.func8, Try.ntmps8
 go_wp2_with fail
 refine (truantlaw06_awake.calls true w rfl).mono ?_
 rintro e w1 ⟨rfl, hb1⟩
 have HB1 := Aside0.mk hb1; clear hb1
 go_wp2_with fail
 refine (truantlaw06_great.calls k A0 c0 l0 false w1 (Kd.C_below HR0.out HB1.out) HC0.out HGR.out).mono ?_
 rintro e w2 ⟨rfl, hd2⟩
 have HB2 := Aside0.mk (below_step HB1.out hd2.below); clear hd2 HB1
 go_wp2_with fail
 refine (heap_New.bad k A0 c0 l0 r1 r2 w2 (Kd.C_below HR0.out HB2.out) HC0.out HCK.out HNE.out).mono ?_
 rintro e w3 ⟨rfl, hb3⟩
 have HB3 := Aside0.mk (below_step HB2.out hb3); clear hb3 HB2
 go_wp2_with fail
 refine (truantref03_Check.calls k A0 c0 l0 r1 r2 w3 (Kd.C_below HR0.out HB3.out) HC0.out HRK.out).mono ?_
 rintro e w4 ⟨rfl, hd4⟩
 have HB4 := Aside0.mk (below_step HB3.out hd4); clear hd4 HB3
 go_wp2_with fail
 refine (heap_Make.nil _ w4).mono ?_
 rintro e w5 ⟨rfl, hb5⟩
 have HB5 := Aside0.mk (below_step HB4.out hb5); clear hb5 HB4
 go_wp2_with fail
 refine (heap_Get.nil 0 0 w5).mono ?_
 rintro e w6 ⟨rfl, hb6⟩
 have HB6 := Aside0.mk (below_step HB5.out hb6); clear hb6 HB5
 go_wp2_with fail
 refine (heap_Set.nil 0 0 0 w6).mono ?_
 rintro e w7 ⟨rfl, hb7⟩
 have HB7 := Aside0.mk (below_step HB6.out hb7); clear hb7 HB6
 go_wp2_with fail
 refine (heap_Of.nil 1 w7).mono ?_
 rintro e w8 ⟨rfl, hb8⟩
 have HB8 := Aside0.mk (below_step HB7.out hb8); clear hb8 HB7
 go_wp2_with fail
 refine (heap_Len.nil w8).mono ?_
 rintro e w9 ⟨rfl, hb9⟩
 have HB9 := Aside0.mk (below_step HB8.out hb9); clear hb9 HB8
 go_wp2_with fail
 refine (heap_Near.nil 1 w9).mono ?_
 rintro e w10 ⟨rfl, hb10⟩
 have HB10 := Aside0.mk (below_step HB9.out hb10); clear hb10 HB9
 go_wp2_with fail
 have hba : Below w10.heap.size w10 (w10.alloc (.cells #[.int .i64 1] 3)) := below_alloc (Below.refl _ _) _
 refine (reach_nil _ 1 [1] _ (r1_row w10) (Nat.le_refl _) (by decide)).mono ?_
 rintro e w11 ⟨v11, rfl, hr11, hb11⟩
 obtain ⟨A11, c11, rfl⟩ := Kd.R_slice hr11
 have HB11 := Aside0.mk (below_step (below_step HB10.out hba) hb11)
 clear hb11 hr11 hba HB10
 have h40 : ([] : List Int).length = 0 := rfl
 rw [h40]
 go_wp2_with fail
 refine (heap_Clone.nil w11).mono ?_
 rintro e w12 ⟨rfl, hb12⟩
 have HB12 := Aside0.mk (below_step HB11.out hb12); clear hb12 HB11
 go_wp2
 go_ret
 exact ⟨rfl, HB12.out⟩
theorem okL_lens {S : List S43} {L : List (Int × List Int)} (hs : RS S) (h : OkL S L) : ∀ x ∈ L, x.2.length ≤ 1000000 := fun x hx => by
 obtain ⟨q0, q1, q2, _⟩ := h.all x hx
 rw [q2]
 refine Nat.le_trans (hs.fields _ ?_) (by decide)
 unfold rd_T43
 rw [getD_at _ _ (by omega)]
 exact List.getElem_mem _
/-- The law's count of those who are reached: n of them lie below i. -/
structure CntI (r : List Int) (n i : Nat) : Prop where
 lo : ∀ p : Nat, p < n → p < r.length → rd r (p : Int) < (i : Int)
 hi : ∀ p : Nat, n ≤ p → p < r.length → (i : Int) ≤ rd r (p : Int)
theorem rd_in {r : List Int} {p : Nat} (h : p < r.length) : rd r (p : Int) ∈ r := by
 unfold rd
 rw [Int.toNat_natCast, getD_at _ _ h]
 exact List.getElem_mem h
theorem cnt_zero {L : List (Int × List Int)} {r : List Int} (h : ∀ x ∈ r, isO L x = true) : CntI r 0 1 :=
 ⟨fun p hp => by omega, fun p _ hp => by
  have := isO_in (h _ (rd_in hp))
  omega⟩
theorem CntI.miss {r : List Int} {n i : Nat} (h : CntI r n i) (hm : (i : Int) ∉ r) : CntI r n (i + 1) :=
 ⟨fun p hp hq => by have := h.lo p hp hq; omega, fun p hp hq => by
  have h1 := h.hi p hp hq
  have h2 : rd r (p : Int) ≠ (i : Int) := fun e => hm (by rw [← e]; exact rd_in hq)
  omega⟩
theorem up_rd {r : List Int} (hu : r.Pairwise (· < ·)) {p q : Nat} (h : p < q) (hq : q < r.length) : rd r (p : Int) < rd r (q : Int) := by
 unfold rd
 rw [Int.toNat_natCast, Int.toNat_natCast, getD_at _ _ (by omega), getD_at _ _ hq]
 exact List.pairwise_iff_getElem.mp hu p q (by omega) hq h
theorem CntI.hit {r : List Int} {n i : Nat} (h : CntI r n i) (hu : r.Pairwise (· < ·)) (hm : (i : Int) ∈ r) : n < r.length ∧ rd r (n : Int) = (i : Int) := by
 obtain ⟨p, hp, e⟩ := List.mem_iff_getElem.mp hm
 have e2 : rd r (p : Int) = (i : Int) := by unfold rd; rw [Int.toNat_natCast, getD_at _ _ hp]; exact e
 have h1 : n ≤ p := by
  by_cases hc : n ≤ p
  ·exact hc
  ·have := h.lo p (by omega) hp; omega
 refine ⟨by omega, ?_⟩
 have h2 := h.hi n (Nat.le_refl _) (by omega)
 by_cases hc : n = p
 ·rw [hc]; exact e2
 ·have := up_rd hu (show n < p by omega) hp
  omega
theorem CntI.next {r : List Int} {n i : Nat} (h : CntI r n i) (hu : r.Pairwise (· < ·)) (hn : n < r.length) (e : rd r (n : Int) = (i : Int)) : CntI r (n + 1) (i + 1) :=
 ⟨fun p hp hq => by
  by_cases hc : p = n
  ·subst hc; omega
  ·have := h.lo p (by omega) hq; omega, fun p hp hq => by
  have := up_rd hu (show n < p by omega) hq
  omega⟩
theorem CntI.all {r : List Int} {n i : Nat} (h : CntI r n i) (hn : n ≤ r.length) (hx : ∀ x ∈ r, x < (i : Int)) : n = r.length := by
 by_cases hc : n = r.length
 ·exact hc
 ·have h1 := h.hi n (Nat.le_refl _) (by omega)
  have h2 := hx _ (rd_in (show n < r.length by omega))
  omega
/-- Two heaps that lie apart. -/
def Ap (g u : Nat) (lok lokU : Nat → Prop) : Prop := ∀ k, (k = g ∨ lok k) → ¬ (k = u ∨ lokU k)
section
variable {base g u : Nat} {w1 w2 : World} {sv lv svU lvU : Value} {S : List S43} {L LU : List (Int × List Int)} {sok lok lok' sokU lokU lokU' : Nat → Prop}
theorem Ap.hold (hA : Ap g u lok lokU) (hH : HP w1 base g sv lv S L sok lok) (hU : HU w1 u u svU lvU S LU sokU lokU) (hw : ∀ k, sokU k → k < base) (hk : Kept w1 w2 (Turns g lok)) : HU w2 u u svU lvU S LU sokU lokU :=
 hU.kept hk (fun h => hA u h (.inl rfl)) (fun k hk h => by
  have h1 := hw k hk
  rcases h with h | h
  ·have := hH.low; omega
  ·have := (hH.lap k h).2.1; omega) (fun k hk h => hA k h (.inr hk))
theorem Ap.holdU (hA : Ap g u lok lokU) (hH : HP w1 base g sv lv S L sok lok) (hU : HU w1 u u svU lvU S LU sokU lokU) (hs : ∀ k, sok k → k < u) (hk : Kept w1 w2 (Turns u lokU)) : HP w2 base g sv lv S L sok lok :=
 hH.kept hk (fun h => hA g (.inl rfl) h) (fun k hk h => by
  have h1 := hs k hk
  rcases h with h | h
  ·omega
  ·have := (hU.lap k h).2.1; omega) (fun k hk h => hA k (.inr hk) h)
theorem Ap.make (hA : Ap g u lok lokU) (hU : HU w1 u u svU lvU S LU sokU lokU) (h : ∀ k, lok' k → lok k ∨ w1.heap.size ≤ k) : Ap g u lok' lokU := by
 intro k hk hu
 have hlt : k < w1.heap.size := by
  rcases hu with e | e
  ·rw [e]; exact blk_lt hU.blk
  ·exact (hU.lap k e).2.2
 rcases hk with e | e
 ·exact hA k (.inl e) hu
 ·rcases h k e with e | e
  ·exact hA k (.inr e) hu
  ·omega
theorem Ap.makeU (hA : Ap g u lok lokU) (hH : HP w1 base g sv lv S L sok lok) (h : ∀ k, lokU' k → lokU k ∨ w1.heap.size ≤ k) : Ap g u lok lokU' := by
 intro k hk hu
 have hlt : k < w1.heap.size := by
  rcases hk with e | e
  ·rw [e]; exact blk_lt hH.blk
  ·exact (hH.lap k e).2.2
 rcases hu with e | e
 ·exact hA k hk (.inl e)
 ·rcases h k e with e | e
  ·exact hA k hk (.inr e)
  ·omega
theorem Ap.fresh (hH : HP w2 w1.heap.size g sv lv S L sok lok) (hU : HU w1 u u svU lvU S LU sokU lokU) : Ap g u lok lokU := by
 intro k hk hu
 have hlt : k < w1.heap.size := by
  rcases hu with e | e
  ·rw [e]; exact blk_lt hU.blk
  ·exact (hU.lap k e).2.2
 rcases hk with e | e
 ·have := hH.low; omega
 ·have := (hH.lap k e).2.1; omega
end
set_option maxRecDepth 100000 in
set_option maxHeartbeats 16000000 in
theorem HeapExact.there (k : Nat) (A0 : Option Addr) (c0 : Nat) (l0 : List (S43)) (A1 : Option Addr) (c1 : Nat) (l1 : List (S58)) (A2 : Option Addr) (c2 : Nat) (l2 : List Int) (r1 : Int) (w : World) (hr0 : Kd.C k43 w A0 l0.length l0) (hc0 : l0.length ≤ c0) (hr1 : Kd.C k58 w A1 l1.length l1) (hc1 : l1.length ≤ c1) (hr2 : Kd.C (Kd.int .i64) w A2 l2.length l2) (hc2 : l2.length ≤ c2)
  (hg : truantlaw06_great.f k l0 = some false) (hlen : ¬ (l1.length : Int) > 80) (hlen2 : ¬ (l2.length : Int) > 20) (hck : kind_Check.f k l0 = some (r1, 0)) (hrk : truantref03_Check.f k l0 = some (r1, 0)) (hrs : RS l0) (hac : ∀ x ∈ l1, -9223372036854775808 ≤ x.f4 ∧ x.f4 ≤ 9223372036854775807) :
  Calls Try.prog 8 #[.slice A0 l0.length c0, .slice A1 l1.length c1, .slice A2 l2.length c2] w fun e w' => e = .returned (.bool true) ∧ Below w.heap.size w w' := by
 have hs1 := hrs.len
 have hs2 : ∀ x ∈ l0, x.f1.length ≤ 1000000 := fun x hx => Nat.le_trans (hrs.fields x hx) (by decide)
 have HRS := Aside0.mk hrs; have HAC := Aside0.mk hac
 have HS2 := Aside0.mk hs2
 have HF0 := Aside0.mk (Kd.C_F heapSt hr0)
 have HR0 := Aside0.mk hr0; have HC0 := Aside0.mk hc0; have HR1 := Aside0.mk hr1; have HGR := Aside0.mk hg; have HCK := Aside0.mk hck; have HRK := Aside0.mk hrk; have HS1 := Aside0.mk hs1; have HLN := Aside0.mk hlen
 have hm1 := Kd.C_max hr1
 have hdl : decide ((l1.length : Int) > 80) = false := decide_eq_false hlen
 have hdl2 : decide ((l2.length : Int) > 20) = false := decide_eq_false hlen2
 have HR2 := Aside0.mk hr2; have HC2 := Aside0.mk hc2; have HL2 : Aside0 (l2.length ≤ 20) := ⟨by omega⟩
 clear hr0 hc0 hr1 hr2 hc2 hg hck hrk hrs hac hs1 hs2 hlen hlen2
 go_enter Try.func8, Try.ntmps8
 go_wp2_with fail
 refine (truantlaw06_awake.calls true w rfl).mono ?_
 rintro e w1 ⟨rfl, hb1⟩
 have HB1 := Aside0.mk hb1; clear hb1
 go_wp2_with fail
 refine (truantlaw06_great.calls k A0 c0 l0 false w1 (Kd.C_below HR0.out HB1.out) HC0.out HGR.out).mono ?_
 rintro e w2 ⟨rfl, hd2⟩
 have HB2 := Aside0.mk (below_step HB1.out hd2.below); clear hd2 HB1
 go_wp2_with fail
 refine (heap_New.calls k A0 c0 l0 r1 w2 (Kd.C_below HR0.out HB2.out) HC0.out HCK.out HS1.out HS2.out).mono ?_
 rintro e w3 ⟨g, sv, sok, rfl, hp3, hb3, _⟩
 have HB3 := Aside0.mk (below_step HB2.out hb3); have HW := Aside0.mk HB2.out.size; have H3 := Aside0.mk hp3
 clear hb3 hp3 HB2
 go_wp2_with fail
 refine (truantref03_Check.calls k A0 c0 l0 r1 0 w3 (Kd.C_below HR0.out HB3.out) HC0.out HRK.out).mono ?_
 rintro e w4 ⟨rfl, hd4⟩
 have HB4 := Aside0.mk (below_step HB3.out hd4); have H4 := Aside0.mk (H3.out.below hd4)
 clear hd4 HB3 H3
 go_wp2_with fail
 have HBa : Aside0 (Below w4.heap.size w4 (w4.alloc (.cells #[.slice A0 l0.length c0, .slice none 0 0] 72))) := ⟨below_alloc (Below.refl _ _) _⟩
 have HBLK : Aside0 ((w4.alloc (.cells #[.slice A0 l0.length c0, .slice none 0 0] 72)).heap[w4.heap.size]? = some (.cells #[.slice A0 l0.length c0, .slice none 0 0] 72 (0, 0))) := ⟨blk_new _ _⟩
 have HUW : Aside0 (w.heap.size ≤ w4.heap.size) := ⟨HB4.out.size⟩
 have HSK : Aside0 (∀ k, sok k → k < w4.heap.size) := ⟨fun k hk => (H4.out.sap k hk).2.2⟩
 have HGU : Aside0 (g < w4.heap.size) := ⟨blk_lt H4.out.blk⟩
 have H5 := Aside0.mk (H4.out.below HBa.out)
 have HB5 := Aside0.mk (below_step HB4.out HBa.out)
 clear HB4 H4 HBa
 generalize w4.alloc (.cells #[.slice A0 l0.length c0, .slice none 0 0] 72) = w5 at HBLK H5 HB5 ⊢
 generalize w4.heap.size = u at HBLK HUW HSK HGU ⊢
 have HU5 : Aside0 (HU w5 u u (.slice A0 l0.length c0) (.slice none 0 0) l0 [] (fun k => k < w.heap.size) (fun _ => False)) := ⟨⟨HBLK.out, Nat.le_refl _, Kd.V_mk HC0.out (Kd.F_below HF0.out HB5.out), Kd.S_nil _ _ _ _ _, fun k hk => ⟨(by have := HUW.out; omega), (fun x => x), Nat.lt_of_lt_of_le hk HB5.out.size⟩, fun k hk => hk.elim⟩⟩
 have HA5 : Aside0 (Ap g u (fun _ => False) (fun _ => False)) := ⟨fun k hk hu => by
  rcases hk with e | e
  ·rcases hu with e2 | e2
   ·have := HGU.out; omega
   ·exact e2
  ·exact e⟩
 clear HBLK HGU
 have HWb := HW
 generalize w2.heap.size = base0 at H5 HWb
 go_loopw [7, 15, 16, 17, 18, 19, 20, 21, 22, 23, 24, 25] (fun v7 v15 _ _ _ _ _ _ _ _ _ _ wr => ∃ (i base g : Nat) (lv : Value) (L : List (Int × List Int)) (lok : Nat → Prop) (lvU : Value) (lokU : Nat → Prop), v7 = ptr g ∧ v15 = .int .i64 i ∧ i ≤ l1.length ∧ Aside0 (L.length ≤ i ∧ OkL l0 L) ∧ Aside0 (w.heap.size ≤ base) ∧ Aside0 (Below w.heap.size w wr) ∧ Aside0 (HP wr base g sv lv l0 L sok lok) ∧ Aside0 (HU wr u u (.slice A0 l0.length c0) lvU l0 L (fun k => k < w.heap.size) lokU) ∧ Aside0 (Ap g u lok lokU)) (fun _ v15 _ _ _ _ _ _ _ _ _ _ _ => l1.length - (intOf v15).toNat)
 case atStart => exact ⟨0, base0, g, _, [], _, _, _, rfl, rfl, Nat.zero_le _, ⟨Nat.le_refl _, okL_nil l0⟩, HWb, HB5, H5, HU5, HA5⟩
 case round =>
  clear HB5 H5 HU5 HA5 HW HWb
  obtain ⟨i, base, g, lv, L, lok, lvU, lokU, rfl, rfl, hi, HL, HW, HB, H, HUx, HA⟩ := hrel
  by_cases hlt : i < l1.length
  ·obtain ⟨ad, e1, hx0, hx1, hx2, hx3, hx4⟩ := at_T58 (Kd.C_below HR1.out HB.out) (i : Int) (by omega) (by omega)
   subst e1
   simp only [Int.toNat_natCast] at hx0 hx1 hx2 hx3 hx4
   obtain ⟨x, ex⟩ : ∃ x, x = rd_T58 l1 (i : Int) := ⟨_, rfl⟩
   rw [← ex] at hx0 hx1 hx2 hx3 hx4
   have hlti : (i : Int) < (l1.length : Int) := by omega
   have HXW : Aside0 (-9223372036854775808 ≤ x.f4 ∧ x.f4 ≤ 9223372036854775807) := ⟨HAC.out x (by rw [ex]; unfold rd_T58; rw [Int.toNat_natCast, getD_at _ _ hlt]; exact List.getElem_mem hlt)⟩
   have hil : i ≤ 80 := by have := HLN.out; omega
   clear ex
   obtain ⟨kd, hkd⟩ : ∃ kd, kd = x.f0 := ⟨_, rfl⟩
   rw [← hkd] at hx0
   clear hkd
   go_upto_region 16 with (fail)
   have HBa : Aside0 (Below wr.heap.size wr (wr.alloc (.cells #[.int .i64 kd, .string x.f1, .int .i64 x.f2, .int .i64 x.f3, .int .i64 x.f4] 58))) := ⟨below_alloc (Below.refl _ _) _⟩
   have HXB : Aside0 ((wr.alloc (.cells #[.int .i64 kd, .string x.f1, .int .i64 x.f2, .int .i64 x.f3, .int .i64 x.f4] 58)).heap[wr.heap.size]? = some (.cells #[.int .i64 kd, .string x.f1, .int .i64 x.f2, .int .i64 x.f3, .int .i64 x.f4] 58 (0, 0))) := ⟨blk_new _ _⟩
   have HNG : Aside0 (¬ Turns g lok wr.heap.size) := ⟨fun h_ => by
    rcases h_ with h_ | h_
    ·have := blk_lt H.out.blk; omega
    ·have := (H.out.lap _ h_).2.2; omega⟩
   have HNU : Aside0 (¬ Turns u lokU wr.heap.size) := ⟨fun h_ => by
    rcases h_ with h_ | h_
    ·have := blk_lt HUx.out.blk; omega
    ·have := (HUx.out.lap _ h_).2.2; omega⟩
   have HB2 := Aside0.mk (below_step HB.out HBa.out); have H2 := Aside0.mk (H.out.below HBa.out); have HU2 := Aside0.mk (HUx.out.below HBa.out)
   clear HB H HUx HBa hx0 hx1 hx2 hx3 hx4
   generalize wr.alloc (.cells #[.int .i64 kd, .string x.f1, .int .i64 x.f2, .int .i64 x.f3, .int .i64 x.f4] 58) = wa at HXB HB2 H2 HU2 ⊢
   generalize wr.heap.size = nb at HXB HNG HNU ⊢
   by_cases hA12 : kd = 1 ∨ kd = 2
   ·rcases hA12 with rfl | rfl
    all_goals as_aux_lemma =>
     obtain ⟨y0, y1, y2, y3, y4, _⟩ := bk5 HXB.out
     go_wp2_with fail
     refine (heap_Make.calls x.f1 H2.out (by have := HL.out.1; omega) HS2.out).mono ?_
     rintro e w6 ⟨rfl, lv6, lok6, hp6, hlo6, hk6, hb6⟩
     have H6 := Aside0.mk hp6; have HU6 := Aside0.mk (HA.out.hold H2.out HU2.out (fun k hk => Nat.lt_of_lt_of_le hk HW.out) hk6); have HA6 := Aside0.mk (HA.out.make HU2.out hlo6); have HB6 := Aside0.mk (HB2.out.trans (hb6.mono HW.out)); have HX6 := Aside0.mk (blk_kept HXB.out hk6 HNG.out)
     clear y0 y1 y2 y3 y4 hp6 hlo6 hk6 hb6 H2 HU2 HA HB2 HXB HNG
     obtain ⟨y0, y1, y2, y3, y4, _⟩ := bk5 HX6.out
     go_wp2_with fail
     refine (ref_Make.calls x.f1 HU6.out (by have := HL.out.1; omega) HS2.out).mono ?_
     rintro e w7 ⟨rfl, lv7, lok7, hp7, hlo7, hk7, hb7⟩
     have HU7 := Aside0.mk hp7; have H7 := Aside0.mk (HA6.out.holdU H6.out HU6.out HSK.out hk7); have HA7 := Aside0.mk (HA6.out.makeU H6.out hlo7); have HB7 := Aside0.mk (HB6.out.trans (hb7.mono HUW.out)); have HX7 := Aside0.mk (blk_kept HX6.out hk7 HNU.out)
     clear y0 y1 y2 y3 y4 hp7 hlo7 hk7 hb7 H6 HU6 HA6 HB6 HX6 HNU
     have n4 : (mkN l0 L x.f1 != mkN l0 L x.f1) = false := bne_self_eq_false _
     have n5 : (mkE l0 L x.f1 != mkE l0 L x.f1) = false := bne_self_eq_false _
     obtain ⟨Lz, hLz⟩ : ∃ Lz, Lz = mkL l0 L x.f1 := ⟨_, rfl⟩
     have HLz : Aside0 (Lz.length ≤ i + 1 ∧ OkL l0 Lz) := ⟨by rw [hLz]; exact ⟨by have := mkL_len (S := l0) L x.f1; have := HL.out.1; omega, okL_mk HL.out.2 x.f1⟩⟩
     rw [← hLz] at H7 HU7
     clear hLz
     obtain ⟨y0, y1, y2, y3, y4, _⟩ := bk5 HX7.out
     go_wp2_with fail
     refine (heap_Get.calls x.f2 x.f3 H7.out).mono ?_
     rintro e wA ⟨rfl, hbA⟩
     have HBA := Aside0.mk (below_step HB7.out hbA); have HTA := Aside0.mk (H7.out.below hbA); have HUA := Aside0.mk (HU7.out.below hbA); have HXA := Aside0.mk (blk_below HX7.out hbA)
     clear y0 y1 y2 y3 y4 hbA HB7 H7 HU7 HX7
     obtain ⟨y0, y1, y2, y3, y4, _⟩ := bk5 HXA.out
     go_wp2_with fail
     refine (ref_Get.calls x.f2 x.f3 HUA.out).mono ?_
     rintro e wC ⟨rfl, hbC⟩
     have HBC := Aside0.mk (below_step HBA.out hbC); have HTC := Aside0.mk (HTA.out.below hbC); have HUC := Aside0.mk (HUA.out.below hbC)
     clear y0 y1 y2 y3 y4 hbC HBA HTA HUA HXA
     have n1 : (getO Lz x.f2 x.f3 != getO Lz x.f2 x.f3) = false := bne_self_eq_false _
     have n2 : (chkE Lz x.f2 x.f3 != chkE Lz x.f2 x.f3) = false := bne_self_eq_false _
     have n3 : ((Lz.length : Int) != (Lz.length : Int)) = false := bne_self_eq_false _
     obtain ⟨Al, cl, el, _, hml⟩ := HUC.out.list
     subst el
     go_upto_region 36 with (fail)
     have HB2 := Aside0.mk (below_drew1 HBC.out)
     have H2r := Aside0.mk (HTC.out.below (below_drew1 (Below.refl _ _)))
     have HU2r := Aside0.mk (HUC.out.below (below_drew1 (Below.refl _ _)))
     clear HBC HTC HUC
     refine start_ (n := 18) (S := fun w' => w'.heap[u]? = some (.cells #[.slice A0 l0.length c0, .slice Al Lz.length cl] 72 (0, 0))) (ds := []) (tf 0 18) (by kernel_rfl) rfl rfl (HU2r.out.blk) (fun hHeld => ?_)
     refine with_tabW truantlaw06_HeapExact.tab36 truantlaw06_HeapExact.bits36 (fun HT_ HW_ => ?_)
     generalize wC.drew = w3a at HB2 H2r HU2r hHeld ⊢
     refine pure_ (i := 0) (N := some 206) (v := ?_) (a' := ?_) (tf 1 17) rfl rfl (any_of HT_.out (by kernel_rfl)) (fun _ _ _ h => h) (Or.inl ⟨by rfl, ?_⟩) ?_ ?_
     rotate_left
     ·intro w'
      go_simp
      with_reducible rfl
     rotate_left
     ·simp only [Act.put, List.setIfInBounds_toArray, List.set_cons_zero, List.set_cons_succ, i64_w, i32_w]
      rfl
     refine pure_ (i := 1) (N := some 207) (v := ?_) (a' := ?_) (tf 2 16) rfl rfl (any_of HT_.out (by kernel_rfl)) (fun _ _ _ h => h) (Or.inl ⟨by rfl, ?_⟩) ?_ ?_
     rotate_left
     ·intro w'
      go_simp
      with_reducible rfl
     rotate_left
     ·simp only [Act.put, List.setIfInBounds_toArray, List.set_cons_zero, List.set_cons_succ, i64_w, i32_w]
      rfl
     refine pure_ (i := 2) (N := some 208) (v := ?_) (a' := ?_) (tf 3 15) rfl rfl (any_of HT_.out (by kernel_rfl)) (fun _ _ _ h => h) (Or.inl ⟨by rfl, ?_⟩) ?_ ?_
     rotate_left
     ·intro w'
      go_simp
      with_reducible rfl
     rotate_left
     ·simp only [Act.put, List.setIfInBounds_toArray, List.set_cons_zero, List.set_cons_succ, i64_w, i32_w]
      rfl
     refine pure_ (i := 3) (N := some 209) (v := ?_) (a' := ?_) (tf 4 14) rfl rfl (any_of HT_.out (by kernel_rfl)) (fun _ _ _ h => h) (Or.inl ⟨by rfl, ?_⟩) ?_ ?_
     rotate_left
     ·intro w'
      go_simp
      with_reducible rfl
     rotate_left
     ·simp only [Act.put, List.setIfInBounds_toArray, List.set_cons_zero, List.set_cons_succ, i64_w, i32_w]
      rfl
     refine pure_ (i := 4) (N := some 210) (v := ?_) (a' := ?_) (tf 5 13) rfl rfl (any_of HT_.out (by kernel_rfl)) (fun _ _ _ h => h) (Or.inl ⟨by rfl, ?_⟩) ?_ ?_
     rotate_left
     ·intro w'
      go_simp
      with_reducible rfl
     rotate_left
     ·simp only [Act.put, List.setIfInBounds_toArray, List.set_cons_zero, List.set_cons_succ, i64_w, i32_w]
      rfl
     refine pure_ (i := 5) (N := some 211) (v := ?_) (a' := ?_) (tf 6 12) rfl rfl (any_of HT_.out (by kernel_rfl)) (fun _ _ _ h => h) (Or.inl ⟨by rfl, ?_⟩) ?_ ?_
     rotate_left
     ·intro w'
      go_simp
      with_reducible rfl
     rotate_left
     ·simp only [Act.put, List.setIfInBounds_toArray, List.set_cons_zero, List.set_cons_succ, i64_w, i32_w]
      rfl
     refine pure_ (i := 6) (N := some 212) (v := ?_) (a' := ?_) (tf 7 11) rfl rfl (any_of HT_.out (by kernel_rfl)) (fun _ _ _ h => h) (Or.inl ⟨by rfl, ?_⟩) ?_ ?_
     rotate_left
     ·intro w'
      go_simp
      with_reducible rfl
     rotate_left
     ·simp only [Act.put, List.setIfInBounds_toArray, List.set_cons_zero, List.set_cons_succ, i64_w, i32_w]
      rfl
     refine pure_ (i := 7) (N := some 213) (v := ?_) (a' := ?_) (tf 8 10) rfl rfl (any_of HT_.out (by kernel_rfl)) (fun _ _ _ h => h) (Or.inl ⟨by rfl, ?_⟩) ?_ ?_
     rotate_left
     ·intro w'
      go_simp
      with_reducible rfl
     rotate_left
     ·simp only [Act.put, List.setIfInBounds_toArray, List.set_cons_zero, List.set_cons_succ, i64_w, i32_w]
      rfl
     refine pure_ (i := 8) (N := some 214) (v := ?_) (a' := ?_) (tf 9 9) rfl rfl (any_of HT_.out (by kernel_rfl)) (fun _ _ _ h => h) (Or.inl ⟨by rfl, ?_⟩) ?_ ?_
     rotate_left
     ·intro w'
      go_simp
      with_reducible rfl
     rotate_left
     ·simp only [Act.put, List.setIfInBounds_toArray, List.set_cons_zero, List.set_cons_succ, i64_w, i32_w]
      rfl
     refine pure_ (i := 9) (N := some 215) (v := ?_) (a' := ?_) (tf 10 8) rfl rfl (any_of HT_.out (by kernel_rfl)) (fun _ _ _ h => h) (Or.inl ⟨by rfl, ?_⟩) ?_ ?_
     rotate_left
     ·intro w'
      go_simp
      with_reducible rfl
     rotate_left
     ·simp only [Act.put, List.setIfInBounds_toArray, List.set_cons_zero, List.set_cons_succ, i64_w, i32_w]
      rfl
     refine pure_ (i := 11) (N := some 217) (v := ?_) (a' := ?_) #[true, true, true, true, true, true, true, true, true, true, false, true, false, false, false, false, false, false] rfl rfl (any_of HT_.out (by kernel_rfl)) (fun _ _ _ h => h) (Or.inl ⟨by rfl, ?_⟩) ?_ ?_
     rotate_left
     ·intro w'
      go_simp
      with_reducible rfl
     rotate_left
     ·simp only [Act.put, List.setIfInBounds_toArray, List.set_cons_zero, List.set_cons_succ, i64_w, i32_w]
      rfl
     refine pure_ (i := 12) (N := some 218) (v := ?_) (a' := ?_) #[true, true, true, true, true, true, true, true, true, true, false, true, true, false, false, false, false, false] rfl rfl (any_of HT_.out (by kernel_rfl)) (fun _ _ _ h => h) (Or.inl ⟨by rfl, ?_⟩) ?_ ?_
     rotate_left
     ·intro w'
      go_simp
      with_reducible rfl
     rotate_left
     ·simp only [Act.put, List.setIfInBounds_toArray, List.set_cons_zero, List.set_cons_succ, i64_w, i32_w]
      rfl
     refine pure_ (i := 13) (N := some 219) (v := ?_) (a' := ?_) #[true, true, true, true, true, true, true, true, true, true, false, true, true, true, false, false, false, false] rfl rfl (any_of HT_.out (by kernel_rfl)) (fun _ _ _ h => h) (Or.inl ⟨by rfl, ?_⟩) ?_ ?_
     rotate_left
     ·intro w'
      go_simp
      with_reducible rfl
     rotate_left
     ·simp only [Act.put, List.setIfInBounds_toArray, List.set_cons_zero, List.set_cons_succ, i64_w, i32_w]
      rfl
     refine take_ (i := 14) (N := some 220) (v := ?_) (a' := ?_) #[true, true, true, true, true, true, true, true, true, true, false, true, true, true, true, false, false, false] rfl rfl (take_ofW HT_.out HW_.out (by kernel_rfl)) (fun _ _ _ h => h) (Or.inl ⟨by rfl, ?_⟩) hHeld ?_ ?_
     rotate_left
     ·intro w' s0
      obtain ⟨z0, z1, _, _⟩ := bk2 s0
      go_simp
      with_reducible rfl
     rotate_left
     ·simp only [Act.put, List.setIfInBounds_toArray, List.set_cons_zero, List.set_cons_succ, i64_w, i32_w]
      rfl
     refine pure_ (i := 15) (N := some 221) (v := ?_) (a' := ?_) #[true, true, true, true, true, true, true, true, true, true, false, true, true, true, true, true, false, false] rfl rfl (any_of HT_.out (by kernel_rfl)) (fun _ _ _ h => h) (Or.inl ⟨by rfl, ?_⟩) ?_ ?_
     rotate_left
     ·intro w'
      go_simp
      with_reducible rfl
     rotate_left
     ·simp only [Act.put, List.setIfInBounds_toArray, List.set_cons_zero, List.set_cons_succ, i64_w, i32_w]
      rfl
     refine one_ (i := 10) (N := some 216) (tf 16 2) rfl rfl (one_of HT_.out (by kernel_rfl)) (by decide) (fun K hK => ?_)
     refine goes_ Try.func41 (by kernel_rfl) rfl #[ptr g] (by rfl) rfl rfl (by simp only [List.map_toArray, List.map_cons, List.map_nil]; rfl) ?_
     refine (heap_Len.calls H2r.out).mono ?_
     rintro e w9 ⟨rfl, hb9⟩
     refine ⟨_, rfl, ?_⟩
     have HB9 := Aside0.mk (below_step HB2.out hb9)
     have H9 := Aside0.mk (H2r.out.below hb9)
     have HU9 := Aside0.mk (HU2r.out.below hb9)
     refine hK.out _ _ ((blkB hHeld hb9)) (fun hHeld => ?_)
     clear hK K
     refine norm_ (a' := ?_) ?_ ?_
     rotate_left
     ·show Act.put _ (some 216) _ = _
      simp only [Act.put, List.setIfInBounds_toArray, List.set_cons_zero, List.set_cons_succ, i64_w, i32_w]
      rfl
     refine pure_ (i := 16) (N := some 222) (v := ?_) (a' := ?_) (tf 17 1) rfl rfl (any_of HT_.out (by kernel_rfl)) (fun _ _ _ h => h) (Or.inl ⟨by rfl, ?_⟩) ?_ ?_
     rotate_left
     ·intro w'
      go_simp
      with_reducible rfl
     rotate_left
     ·simp only [Act.put, List.setIfInBounds_toArray, List.set_cons_zero, List.set_cons_succ, i64_w, i32_w]
      rfl
     refine pure_ (i := 17) (N := some 223) (v := ?_) (a' := ?_) (tf 18 0) rfl rfl (any_of HT_.out (by kernel_rfl)) (fun _ _ _ h => h) (Or.inl ⟨by rfl, ?_⟩) ?_ ?_
     rotate_left
     ·intro w'
      go_simp
      with_reducible rfl
     rotate_left
     ·simp only [Act.put, List.setIfInBounds_toArray, List.set_cons_zero, List.set_cons_succ, i64_w, i32_w]
      rfl
     refine done_ (done_of HT_.out (by kernel_rfl)) ?_
     clear n1 n2 n3
     go_wp2
     go_roundw
     case rel => exact ⟨i + 1, base, g, _, Lz, lok6, _, lok7, rfl, by go_num, by omega, HLz, HW, HB9, H9, HU9, HA7⟩
     case measure => simp [intOf]; omega
   ·by_cases hB : kd = 3 ∨ kd = 4 ∨ kd = 5
    ·rcases hB with rfl | rfl | rfl
     all_goals as_aux_lemma =>
      obtain ⟨y0, y1, y2, y3, y4, _⟩ := bk5 HXB.out
      go_upto_region 26 with (fail)
      clear y0 y1 y2 y3 y4
      have HB3 := Aside0.mk (below_drew1 HB2.out)
      have H3 := Aside0.mk (H2.out.below (below_drew1 (Below.refl _ _)))
      have HU3 := Aside0.mk (HU2.out.below (below_drew1 (Below.refl _ _)))
      have HX3 := Aside0.mk (blk_drew HXB.out)
      have n4 : (chkE L x.f2 x.f3 != chkE L x.f2 x.f3) = false := bne_self_eq_false _
      clear H2 HU2 HB2 HXB
      refine start_ (n := 17) (S := fun w' => w'.heap[nb]? = some (.cells #[.int .i64 _, .string x.f1, .int .i64 x.f2, .int .i64 x.f3, .int .i64 x.f4] 58 (0, 0))) (ds := []) (tf 0 17) (by kernel_rfl) rfl rfl (HX3.out) (fun hHeld => ?_)
      refine with_tabW truantlaw06_HeapExact.tab26 truantlaw06_HeapExact.bits26 (fun HT_ HW_ => ?_)
      generalize wa.drew = w3a at HB3 H3 HU3 HX3 hHeld ⊢
      refine pure_ (i := 0) (N := some 150) (v := ?_) (a' := ?_) (tf 1 16) rfl rfl (any_of HT_.out (by kernel_rfl)) (fun _ _ _ h => h) (Or.inl ⟨by rfl, ?_⟩) ?_ ?_
      rotate_left
      ·intro w'
       go_simp
       with_reducible rfl
      rotate_left
      ·simp only [Act.put, List.setIfInBounds_toArray, List.set_cons_zero, List.set_cons_succ, i64_w, i32_w]
       rfl
      refine pure_ (i := 1) (N := some 151) (v := ?_) (a' := ?_) (tf 2 15) rfl rfl (any_of HT_.out (by kernel_rfl)) (fun _ _ _ h => h) (Or.inl ⟨by rfl, ?_⟩) ?_ ?_
      rotate_left
      ·intro w'
       go_simp
       with_reducible rfl
      rotate_left
      ·simp only [Act.put, List.setIfInBounds_toArray, List.set_cons_zero, List.set_cons_succ, i64_w, i32_w]
       rfl
      refine pure_ (i := 3) (N := some 153) (v := ?_) (a' := ?_) #[true, true, false, true, false, false, false, false, false, false, false, false, false, false, false, false, false] rfl rfl (any_of HT_.out (by kernel_rfl)) (fun _ _ _ h => h) (Or.inl ⟨by rfl, ?_⟩) ?_ ?_
      rotate_left
      ·intro w'
       go_simp
       with_reducible rfl
      rotate_left
      ·simp only [Act.put, List.setIfInBounds_toArray, List.set_cons_zero, List.set_cons_succ, i64_w, i32_w]
       rfl
      refine pure_ (i := 5) (N := some 155) (v := ?_) (a' := ?_) #[true, true, false, true, false, true, false, false, false, false, false, false, false, false, false, false, false] rfl rfl (any_of HT_.out (by kernel_rfl)) (fun _ _ _ h => h) (Or.inl ⟨by rfl, ?_⟩) ?_ ?_
      rotate_left
      ·intro w'
       go_simp
       with_reducible rfl
      rotate_left
      ·simp only [Act.put, List.setIfInBounds_toArray, List.set_cons_zero, List.set_cons_succ, i64_w, i32_w]
       rfl
      refine pure_ (i := 8) (N := some 158) (v := ?_) (a' := ?_) #[true, true, false, true, false, true, false, false, true, false, false, false, false, false, false, false, false] rfl rfl (any_of HT_.out (by kernel_rfl)) (fun _ _ _ h => h) (Or.inl ⟨by rfl, ?_⟩) ?_ ?_
      rotate_left
      ·intro w'
       go_simp
       with_reducible rfl
      rotate_left
      ·simp only [Act.put, List.setIfInBounds_toArray, List.set_cons_zero, List.set_cons_succ, i64_w, i32_w]
       rfl
      refine pure_ (i := 9) (N := some 159) (v := ?_) (a' := ?_) #[true, true, false, true, false, true, false, false, true, true, false, false, false, false, false, false, false] rfl rfl (any_of HT_.out (by kernel_rfl)) (fun _ _ _ h => h) (Or.inl ⟨by rfl, ?_⟩) ?_ ?_
      rotate_left
      ·intro w'
       go_simp
       with_reducible rfl
      rotate_left
      ·simp only [Act.put, List.setIfInBounds_toArray, List.set_cons_zero, List.set_cons_succ, i64_w, i32_w]
       rfl
      refine pure_ (i := 11) (N := some 161) (v := ?_) (a' := ?_) #[true, true, false, true, false, true, false, false, true, true, false, true, false, false, false, false, false] rfl rfl (any_of HT_.out (by kernel_rfl)) (fun _ _ _ h => h) (Or.inl ⟨by rfl, ?_⟩) ?_ ?_
      rotate_left
      ·intro w'
       go_simp
       with_reducible rfl
      rotate_left
      ·simp only [Act.put, List.setIfInBounds_toArray, List.set_cons_zero, List.set_cons_succ, i64_w, i32_w]
       rfl
      refine pure_ (i := 13) (N := some 163) (v := ?_) (a' := ?_) #[true, true, false, true, false, true, false, false, true, true, false, true, false, true, false, false, false] rfl rfl (any_of HT_.out (by kernel_rfl)) (fun _ _ _ h => h) (Or.inl ⟨by rfl, ?_⟩) ?_ ?_
      rotate_left
      ·intro w'
       go_simp
       with_reducible rfl
      rotate_left
      ·simp only [Act.put, List.setIfInBounds_toArray, List.set_cons_zero, List.set_cons_succ, i64_w, i32_w]
       rfl
      refine take_ (i := 2) (N := some 152) (v := ?_) (a' := ?_) #[true, true, true, true, false, true, false, false, true, true, false, true, false, true, false, false, false] rfl rfl (take_ofW HT_.out HW_.out (by kernel_rfl)) (fun _ _ _ h => h) (Or.inl ⟨by rfl, ?_⟩) hHeld ?_ ?_
      rotate_left
      ·intro w' s0
       obtain ⟨c0_, c1_, c2_, c3_, c4_, _⟩ := bk5 s0
       go_simp
       with_reducible rfl
      rotate_left
      ·simp only [Act.put, List.setIfInBounds_toArray, List.set_cons_zero, List.set_cons_succ, i64_w, i32_w]
       rfl
      refine take_ (i := 4) (N := some 154) (v := ?_) (a' := ?_) #[true, true, true, true, true, true, false, false, true, true, false, true, false, true, false, false, false] rfl rfl (take_ofW HT_.out HW_.out (by kernel_rfl)) (fun _ _ _ h => h) (Or.inl ⟨by rfl, ?_⟩) hHeld ?_ ?_
      rotate_left
      ·intro w' s0
       obtain ⟨c0_, c1_, c2_, c3_, c4_, _⟩ := bk5 s0
       go_simp
       with_reducible rfl
      rotate_left
      ·simp only [Act.put, List.setIfInBounds_toArray, List.set_cons_zero, List.set_cons_succ, i64_w, i32_w]
       rfl
      refine take_ (i := 6) (N := some 156) (v := ?_) (a' := ?_) #[true, true, true, true, true, true, true, false, true, true, false, true, false, true, false, false, false] rfl rfl (take_ofW HT_.out HW_.out (by kernel_rfl)) (fun _ _ _ h => h) (Or.inl ⟨by rfl, ?_⟩) hHeld ?_ ?_
      rotate_left
      ·intro w' s0
       obtain ⟨c0_, c1_, c2_, c3_, c4_, _⟩ := bk5 s0
       go_simp
       with_reducible rfl
      rotate_left
      ·simp only [Act.put, List.setIfInBounds_toArray, List.set_cons_zero, List.set_cons_succ, i64_w, i32_w]
       rfl
      refine take_ (i := 10) (N := some 160) (v := ?_) (a' := ?_) #[true, true, true, true, true, true, true, false, true, true, true, true, false, true, false, false, false] rfl rfl (take_ofW HT_.out HW_.out (by kernel_rfl)) (fun _ _ _ h => h) (Or.inl ⟨by rfl, ?_⟩) hHeld ?_ ?_
      rotate_left
      ·intro w' s0
       obtain ⟨c0_, c1_, c2_, c3_, c4_, _⟩ := bk5 s0
       go_simp
       with_reducible rfl
      rotate_left
      ·simp only [Act.put, List.setIfInBounds_toArray, List.set_cons_zero, List.set_cons_succ, i64_w, i32_w]
       rfl
      refine take_ (i := 12) (N := some 162) (v := ?_) (a' := ?_) #[true, true, true, true, true, true, true, false, true, true, true, true, true, true, false, false, false] rfl rfl (take_ofW HT_.out HW_.out (by kernel_rfl)) (fun _ _ _ h => h) (Or.inl ⟨by rfl, ?_⟩) hHeld ?_ ?_
      rotate_left
      ·intro w' s0
       obtain ⟨c0_, c1_, c2_, c3_, c4_, _⟩ := bk5 s0
       go_simp
       with_reducible rfl
      rotate_left
      ·simp only [Act.put, List.setIfInBounds_toArray, List.set_cons_zero, List.set_cons_succ, i64_w, i32_w]
       rfl
      refine take_ (i := 14) (N := some 164) (v := ?_) (a' := ?_) #[true, true, true, true, true, true, true, false, true, true, true, true, true, true, true, false, false] rfl rfl (take_ofW HT_.out HW_.out (by kernel_rfl)) (fun _ _ _ h => h) (Or.inl ⟨by rfl, ?_⟩) hHeld ?_ ?_
      rotate_left
      ·intro w' s0
       obtain ⟨c0_, c1_, c2_, c3_, c4_, _⟩ := bk5 s0
       go_simp
       with_reducible rfl
      rotate_left
      ·simp only [Act.put, List.setIfInBounds_toArray, List.set_cons_zero, List.set_cons_succ, i64_w, i32_w]
       rfl
      refine one_ (i := 7) (N := some 157) (tf 15 2) rfl rfl (one_of HT_.out (by kernel_rfl)) (by decide) (fun K hK => ?_)
      refine goes_ Try.func35 (by kernel_rfl) rfl #[ptr g, .int .i64 x.f2, .int .i64 x.f3, .int .i64 x.f4] (by rfl) rfl rfl (by simp only [List.map_toArray, List.map_cons, List.map_nil]; rfl) ?_
      refine (heap_Set.calls x.f2 x.f3 x.f4 H3.out).mono ?_
      rintro e w6 ⟨rfl, hp6, hk6, hb6⟩
      refine ⟨_, rfl, ?_⟩
      have HK6 := Aside0.mk (hk6.mono (S' := Turns g lok) (fun k hk => .inr hk))
      have H6 := Aside0.mk hp6
      have HU6 := Aside0.mk (HA.out.hold H3.out HU3.out (fun k hk => Nat.lt_of_lt_of_le hk HW.out) HK6.out)
      have HB6 := Aside0.mk (HB3.out.trans (hb6.mono HW.out))
      have HX6 := Aside0.mk (blk_kept hHeld HK6.out HNG.out)
      clear hp6 hk6 hb6
      refine hK.out _ _ (HX6.out) (fun hHeld => ?_)
      clear hK K
      refine norm_ (a' := ?_) ?_ ?_
      rotate_left
      ·show Act.put _ (some 157) _ = _
       simp only [Act.put, List.setIfInBounds_toArray, List.set_cons_zero, List.set_cons_succ, i64_w, i32_w]
       rfl
      refine one_ (i := 15) (N := some 165) (tf 16 1) rfl rfl (one_of HT_.out (by kernel_rfl)) (by decide) (fun K hK => ?_)
      refine goes_ Try.func44 (by kernel_rfl) rfl #[ptr u, .int .i64 x.f2, .int .i64 x.f3, .int .i64 x.f4] (by rfl) rfl rfl (by simp only [List.map_toArray, List.map_cons, List.map_nil]; rfl) ?_
      refine (ref_Set.calls x.f2 x.f3 x.f4 HU6.out).mono ?_
      rintro e w7 ⟨rfl, hp7, hk7, hb7⟩
      refine ⟨_, rfl, ?_⟩
      have HK7 := Aside0.mk (hk7.mono (S' := Turns u lokU) (fun k hk => .inr hk))
      have HU7 := Aside0.mk hp7
      have H7 := Aside0.mk (HA.out.holdU H6.out HU6.out HSK.out HK7.out)
      have HB7 := Aside0.mk (HB6.out.trans (hb7.mono HUW.out))
      have HX7 := Aside0.mk (blk_kept hHeld HK7.out HNU.out)
      clear hp7 hk7 hb7
      refine hK.out _ _ (HX7.out) (fun hHeld => ?_)
      clear hK K
      refine norm_ (a' := ?_) ?_ ?_
      rotate_left
      ·show Act.put _ (some 165) _ = _
       simp only [Act.put, List.setIfInBounds_toArray, List.set_cons_zero, List.set_cons_succ, i64_w, i32_w]
       rfl
      refine pure_ (i := 16) (N := some 166) (v := ?_) (a' := ?_) (tf 17 0) rfl rfl (any_of HT_.out (by kernel_rfl)) (fun _ _ _ h => h) (Or.inl ⟨by rfl, ?_⟩) ?_ ?_
      rotate_left
      ·intro w'
       go_simp
       with_reducible rfl
      rotate_left
      ·simp only [Act.put, List.setIfInBounds_toArray, List.set_cons_zero, List.set_cons_succ, i64_w, i32_w]
       rfl
      refine done_ (done_of HT_.out (by kernel_rfl)) ?_
      obtain ⟨Lz, hLz⟩ : ∃ Lz, Lz = setO L x.f2 x.f3 x.f4 := ⟨_, rfl⟩
      have HLz : Aside0 (Lz.length ≤ i + 1 ∧ OkL l0 Lz) := ⟨by rw [hLz]; exact ⟨by rw [setO_len]; have := HL.out.1; omega, okL_set HL.out.2 _ _ _ HXW.out⟩⟩
      rw [← hLz] at H7 HU7
      clear hLz
      obtain ⟨y0, y1, y2, y3, y4, _⟩ := bk5 HX7.out
      go_wp2_with fail
      refine (heap_Get.calls x.f2 x.f3 H7.out).mono ?_
      rintro e wA ⟨rfl, hbA⟩
      have HBA := Aside0.mk (below_step HB7.out hbA); have HTA := Aside0.mk (H7.out.below hbA); have HUA := Aside0.mk (HU7.out.below hbA); have HXA := Aside0.mk (blk_below HX7.out hbA)
      clear y0 y1 y2 y3 y4 hbA HB7 H7 HU7 HX7
      obtain ⟨y0, y1, y2, y3, y4, _⟩ := bk5 HXA.out
      go_wp2_with fail
      refine (ref_Get.calls x.f2 x.f3 HUA.out).mono ?_
      rintro e wC ⟨rfl, hbC⟩
      have HBC := Aside0.mk (below_step HBA.out hbC); have HTC := Aside0.mk (HTA.out.below hbC); have HUC := Aside0.mk (HUA.out.below hbC)
      clear y0 y1 y2 y3 y4 hbC HBA HTA HUA HXA
      have n1 : (getO Lz x.f2 x.f3 != getO Lz x.f2 x.f3) = false := bne_self_eq_false _
      have n2 : (chkE Lz x.f2 x.f3 != chkE Lz x.f2 x.f3) = false := bne_self_eq_false _
      have n3 : ((Lz.length : Int) != (Lz.length : Int)) = false := bne_self_eq_false _
      obtain ⟨Al, cl, el, _, hml⟩ := HUC.out.list
      subst el
      go_upto_region 36 with (fail)
      have HB2 := Aside0.mk (below_drew1 HBC.out)
      have H2r := Aside0.mk (HTC.out.below (below_drew1 (Below.refl _ _)))
      have HU2r := Aside0.mk (HUC.out.below (below_drew1 (Below.refl _ _)))
      clear HBC HTC HUC
      refine start_ (n := 18) (S := fun w' => w'.heap[u]? = some (.cells #[.slice A0 l0.length c0, .slice Al Lz.length cl] 72 (0, 0))) (ds := []) (tf 0 18) (by kernel_rfl) rfl rfl (HU2r.out.blk) (fun hHeld => ?_)
      refine with_tabW truantlaw06_HeapExact.tab36 truantlaw06_HeapExact.bits36 (fun HT_ HW_ => ?_)
      generalize wC.drew = w3a at HB2 H2r HU2r hHeld ⊢
      refine pure_ (i := 0) (N := some 206) (v := ?_) (a' := ?_) (tf 1 17) rfl rfl (any_of HT_.out (by kernel_rfl)) (fun _ _ _ h => h) (Or.inl ⟨by rfl, ?_⟩) ?_ ?_
      rotate_left
      ·intro w'
       go_simp
       with_reducible rfl
      rotate_left
      ·simp only [Act.put, List.setIfInBounds_toArray, List.set_cons_zero, List.set_cons_succ, i64_w, i32_w]
       rfl
      refine pure_ (i := 1) (N := some 207) (v := ?_) (a' := ?_) (tf 2 16) rfl rfl (any_of HT_.out (by kernel_rfl)) (fun _ _ _ h => h) (Or.inl ⟨by rfl, ?_⟩) ?_ ?_
      rotate_left
      ·intro w'
       go_simp
       with_reducible rfl
      rotate_left
      ·simp only [Act.put, List.setIfInBounds_toArray, List.set_cons_zero, List.set_cons_succ, i64_w, i32_w]
       rfl
      refine pure_ (i := 2) (N := some 208) (v := ?_) (a' := ?_) (tf 3 15) rfl rfl (any_of HT_.out (by kernel_rfl)) (fun _ _ _ h => h) (Or.inl ⟨by rfl, ?_⟩) ?_ ?_
      rotate_left
      ·intro w'
       go_simp
       with_reducible rfl
      rotate_left
      ·simp only [Act.put, List.setIfInBounds_toArray, List.set_cons_zero, List.set_cons_succ, i64_w, i32_w]
       rfl
      refine pure_ (i := 3) (N := some 209) (v := ?_) (a' := ?_) (tf 4 14) rfl rfl (any_of HT_.out (by kernel_rfl)) (fun _ _ _ h => h) (Or.inl ⟨by rfl, ?_⟩) ?_ ?_
      rotate_left
      ·intro w'
       go_simp
       with_reducible rfl
      rotate_left
      ·simp only [Act.put, List.setIfInBounds_toArray, List.set_cons_zero, List.set_cons_succ, i64_w, i32_w]
       rfl
      refine pure_ (i := 4) (N := some 210) (v := ?_) (a' := ?_) (tf 5 13) rfl rfl (any_of HT_.out (by kernel_rfl)) (fun _ _ _ h => h) (Or.inl ⟨by rfl, ?_⟩) ?_ ?_
      rotate_left
      ·intro w'
       go_simp
       with_reducible rfl
      rotate_left
      ·simp only [Act.put, List.setIfInBounds_toArray, List.set_cons_zero, List.set_cons_succ, i64_w, i32_w]
       rfl
      refine pure_ (i := 5) (N := some 211) (v := ?_) (a' := ?_) (tf 6 12) rfl rfl (any_of HT_.out (by kernel_rfl)) (fun _ _ _ h => h) (Or.inl ⟨by rfl, ?_⟩) ?_ ?_
      rotate_left
      ·intro w'
       go_simp
       with_reducible rfl
      rotate_left
      ·simp only [Act.put, List.setIfInBounds_toArray, List.set_cons_zero, List.set_cons_succ, i64_w, i32_w]
       rfl
      refine pure_ (i := 6) (N := some 212) (v := ?_) (a' := ?_) (tf 7 11) rfl rfl (any_of HT_.out (by kernel_rfl)) (fun _ _ _ h => h) (Or.inl ⟨by rfl, ?_⟩) ?_ ?_
      rotate_left
      ·intro w'
       go_simp
       with_reducible rfl
      rotate_left
      ·simp only [Act.put, List.setIfInBounds_toArray, List.set_cons_zero, List.set_cons_succ, i64_w, i32_w]
       rfl
      refine pure_ (i := 7) (N := some 213) (v := ?_) (a' := ?_) (tf 8 10) rfl rfl (any_of HT_.out (by kernel_rfl)) (fun _ _ _ h => h) (Or.inl ⟨by rfl, ?_⟩) ?_ ?_
      rotate_left
      ·intro w'
       go_simp
       with_reducible rfl
      rotate_left
      ·simp only [Act.put, List.setIfInBounds_toArray, List.set_cons_zero, List.set_cons_succ, i64_w, i32_w]
       rfl
      refine pure_ (i := 8) (N := some 214) (v := ?_) (a' := ?_) (tf 9 9) rfl rfl (any_of HT_.out (by kernel_rfl)) (fun _ _ _ h => h) (Or.inl ⟨by rfl, ?_⟩) ?_ ?_
      rotate_left
      ·intro w'
       go_simp
       with_reducible rfl
      rotate_left
      ·simp only [Act.put, List.setIfInBounds_toArray, List.set_cons_zero, List.set_cons_succ, i64_w, i32_w]
       rfl
      refine pure_ (i := 9) (N := some 215) (v := ?_) (a' := ?_) (tf 10 8) rfl rfl (any_of HT_.out (by kernel_rfl)) (fun _ _ _ h => h) (Or.inl ⟨by rfl, ?_⟩) ?_ ?_
      rotate_left
      ·intro w'
       go_simp
       with_reducible rfl
      rotate_left
      ·simp only [Act.put, List.setIfInBounds_toArray, List.set_cons_zero, List.set_cons_succ, i64_w, i32_w]
       rfl
      refine pure_ (i := 11) (N := some 217) (v := ?_) (a' := ?_) #[true, true, true, true, true, true, true, true, true, true, false, true, false, false, false, false, false, false] rfl rfl (any_of HT_.out (by kernel_rfl)) (fun _ _ _ h => h) (Or.inl ⟨by rfl, ?_⟩) ?_ ?_
      rotate_left
      ·intro w'
       go_simp
       with_reducible rfl
      rotate_left
      ·simp only [Act.put, List.setIfInBounds_toArray, List.set_cons_zero, List.set_cons_succ, i64_w, i32_w]
       rfl
      refine pure_ (i := 12) (N := some 218) (v := ?_) (a' := ?_) #[true, true, true, true, true, true, true, true, true, true, false, true, true, false, false, false, false, false] rfl rfl (any_of HT_.out (by kernel_rfl)) (fun _ _ _ h => h) (Or.inl ⟨by rfl, ?_⟩) ?_ ?_
      rotate_left
      ·intro w'
       go_simp
       with_reducible rfl
      rotate_left
      ·simp only [Act.put, List.setIfInBounds_toArray, List.set_cons_zero, List.set_cons_succ, i64_w, i32_w]
       rfl
      refine pure_ (i := 13) (N := some 219) (v := ?_) (a' := ?_) #[true, true, true, true, true, true, true, true, true, true, false, true, true, true, false, false, false, false] rfl rfl (any_of HT_.out (by kernel_rfl)) (fun _ _ _ h => h) (Or.inl ⟨by rfl, ?_⟩) ?_ ?_
      rotate_left
      ·intro w'
       go_simp
       with_reducible rfl
      rotate_left
      ·simp only [Act.put, List.setIfInBounds_toArray, List.set_cons_zero, List.set_cons_succ, i64_w, i32_w]
       rfl
      refine take_ (i := 14) (N := some 220) (v := ?_) (a' := ?_) #[true, true, true, true, true, true, true, true, true, true, false, true, true, true, true, false, false, false] rfl rfl (take_ofW HT_.out HW_.out (by kernel_rfl)) (fun _ _ _ h => h) (Or.inl ⟨by rfl, ?_⟩) hHeld ?_ ?_
      rotate_left
      ·intro w' s0
       obtain ⟨z0, z1, _, _⟩ := bk2 s0
       go_simp
       with_reducible rfl
      rotate_left
      ·simp only [Act.put, List.setIfInBounds_toArray, List.set_cons_zero, List.set_cons_succ, i64_w, i32_w]
       rfl
      refine pure_ (i := 15) (N := some 221) (v := ?_) (a' := ?_) #[true, true, true, true, true, true, true, true, true, true, false, true, true, true, true, true, false, false] rfl rfl (any_of HT_.out (by kernel_rfl)) (fun _ _ _ h => h) (Or.inl ⟨by rfl, ?_⟩) ?_ ?_
      rotate_left
      ·intro w'
       go_simp
       with_reducible rfl
      rotate_left
      ·simp only [Act.put, List.setIfInBounds_toArray, List.set_cons_zero, List.set_cons_succ, i64_w, i32_w]
       rfl
      refine one_ (i := 10) (N := some 216) (tf 16 2) rfl rfl (one_of HT_.out (by kernel_rfl)) (by decide) (fun K hK => ?_)
      refine goes_ Try.func41 (by kernel_rfl) rfl #[ptr g] (by rfl) rfl rfl (by simp only [List.map_toArray, List.map_cons, List.map_nil]; rfl) ?_
      refine (heap_Len.calls H2r.out).mono ?_
      rintro e w9 ⟨rfl, hb9⟩
      refine ⟨_, rfl, ?_⟩
      have HB9 := Aside0.mk (below_step HB2.out hb9)
      have H9 := Aside0.mk (H2r.out.below hb9)
      have HU9 := Aside0.mk (HU2r.out.below hb9)
      refine hK.out _ _ ((blkB hHeld hb9)) (fun hHeld => ?_)
      clear hK K
      refine norm_ (a' := ?_) ?_ ?_
      rotate_left
      ·show Act.put _ (some 216) _ = _
       simp only [Act.put, List.setIfInBounds_toArray, List.set_cons_zero, List.set_cons_succ, i64_w, i32_w]
       rfl
      refine pure_ (i := 16) (N := some 222) (v := ?_) (a' := ?_) (tf 17 1) rfl rfl (any_of HT_.out (by kernel_rfl)) (fun _ _ _ h => h) (Or.inl ⟨by rfl, ?_⟩) ?_ ?_
      rotate_left
      ·intro w'
       go_simp
       with_reducible rfl
      rotate_left
      ·simp only [Act.put, List.setIfInBounds_toArray, List.set_cons_zero, List.set_cons_succ, i64_w, i32_w]
       rfl
      refine pure_ (i := 17) (N := some 223) (v := ?_) (a' := ?_) (tf 18 0) rfl rfl (any_of HT_.out (by kernel_rfl)) (fun _ _ _ h => h) (Or.inl ⟨by rfl, ?_⟩) ?_ ?_
      rotate_left
      ·intro w'
       go_simp
       with_reducible rfl
      rotate_left
      ·simp only [Act.put, List.setIfInBounds_toArray, List.set_cons_zero, List.set_cons_succ, i64_w, i32_w]
       rfl
      refine done_ (done_of HT_.out (by kernel_rfl)) ?_
      clear n1 n2 n3
      go_wp2
      go_roundw
      case rel => exact ⟨i + 1, base, g, _, Lz, lok, _, lokU, rfl, by go_num, by omega, HLz, HW, HB9, H9, HU9, HA⟩
      case measure => simp [intOf]; omega
    ·by_cases hC6 : kd = 6
     ·as_aux_lemma =>
      subst hC6
      obtain ⟨y0, y1, y2, y3, y4, _⟩ := bk5 HXB.out
      go_wp2_with fail
      have HCN : Aside0 (w.heap.size ≤ wa.heap.size) := ⟨HB2.out.size⟩
      refine (heap_Clone.calls H2.out (by have := HL.out.1; omega) (okL_lens HRS.out HL.out.2)).mono ?_
      rintro e w6 ⟨g6, lv6, lok6, rfl, hp6, hb6⟩
      have H6 := Aside0.mk hp6; have HU6 := Aside0.mk (HU2.out.below hb6); have HA6 := Aside0.mk (Ap.fresh hp6 HU2.out); have HB6 := Aside0.mk (below_step HB2.out hb6); have HX6 := Aside0.mk (blk_below HXB.out hb6)
      clear y0 y1 y2 y3 y4 hp6 hb6 H2 HU2 HA HB2 HXB HNG HNU
      generalize wa.heap.size = base6 at H6 HCN
      obtain ⟨Lz, hLz⟩ : ∃ Lz, Lz = L := ⟨_, rfl⟩
      have HLz : Aside0 (Lz.length ≤ i + 1 ∧ OkL l0 Lz) := ⟨by rw [hLz]; exact ⟨by have := HL.out.1; omega, HL.out.2⟩⟩
      rw [← hLz] at H6 HU6
      clear hLz
      obtain ⟨y0, y1, y2, y3, y4, _⟩ := bk5 HX6.out
      go_wp2_with fail
      refine (heap_Get.calls x.f2 x.f3 H6.out).mono ?_
      rintro e wA ⟨rfl, hbA⟩
      have HBA := Aside0.mk (below_step HB6.out hbA); have HTA := Aside0.mk (H6.out.below hbA); have HUA := Aside0.mk (HU6.out.below hbA); have HXA := Aside0.mk (blk_below HX6.out hbA)
      clear y0 y1 y2 y3 y4 hbA HB6 H6 HU6 HX6
      obtain ⟨y0, y1, y2, y3, y4, _⟩ := bk5 HXA.out
      go_wp2_with fail
      refine (ref_Get.calls x.f2 x.f3 HUA.out).mono ?_
      rintro e wC ⟨rfl, hbC⟩
      have HBC := Aside0.mk (below_step HBA.out hbC); have HTC := Aside0.mk (HTA.out.below hbC); have HUC := Aside0.mk (HUA.out.below hbC)
      clear y0 y1 y2 y3 y4 hbC HBA HTA HUA HXA
      have n1 : (getO Lz x.f2 x.f3 != getO Lz x.f2 x.f3) = false := bne_self_eq_false _
      have n2 : (chkE Lz x.f2 x.f3 != chkE Lz x.f2 x.f3) = false := bne_self_eq_false _
      have n3 : ((Lz.length : Int) != (Lz.length : Int)) = false := bne_self_eq_false _
      obtain ⟨Al, cl, el, _, hml⟩ := HUC.out.list
      subst el
      go_upto_region 36 with (fail)
      have HB2 := Aside0.mk (below_drew1 HBC.out)
      have H2r := Aside0.mk (HTC.out.below (below_drew1 (Below.refl _ _)))
      have HU2r := Aside0.mk (HUC.out.below (below_drew1 (Below.refl _ _)))
      clear HBC HTC HUC
      refine start_ (n := 18) (S := fun w' => w'.heap[u]? = some (.cells #[.slice A0 l0.length c0, .slice Al Lz.length cl] 72 (0, 0))) (ds := []) (tf 0 18) (by kernel_rfl) rfl rfl (HU2r.out.blk) (fun hHeld => ?_)
      refine with_tabW truantlaw06_HeapExact.tab36 truantlaw06_HeapExact.bits36 (fun HT_ HW_ => ?_)
      generalize wC.drew = w3a at HB2 H2r HU2r hHeld ⊢
      refine pure_ (i := 0) (N := some 206) (v := ?_) (a' := ?_) (tf 1 17) rfl rfl (any_of HT_.out (by kernel_rfl)) (fun _ _ _ h => h) (Or.inl ⟨by rfl, ?_⟩) ?_ ?_
      rotate_left
      ·intro w'
       go_simp
       with_reducible rfl
      rotate_left
      ·simp only [Act.put, List.setIfInBounds_toArray, List.set_cons_zero, List.set_cons_succ, i64_w, i32_w]
       rfl
      refine pure_ (i := 1) (N := some 207) (v := ?_) (a' := ?_) (tf 2 16) rfl rfl (any_of HT_.out (by kernel_rfl)) (fun _ _ _ h => h) (Or.inl ⟨by rfl, ?_⟩) ?_ ?_
      rotate_left
      ·intro w'
       go_simp
       with_reducible rfl
      rotate_left
      ·simp only [Act.put, List.setIfInBounds_toArray, List.set_cons_zero, List.set_cons_succ, i64_w, i32_w]
       rfl
      refine pure_ (i := 2) (N := some 208) (v := ?_) (a' := ?_) (tf 3 15) rfl rfl (any_of HT_.out (by kernel_rfl)) (fun _ _ _ h => h) (Or.inl ⟨by rfl, ?_⟩) ?_ ?_
      rotate_left
      ·intro w'
       go_simp
       with_reducible rfl
      rotate_left
      ·simp only [Act.put, List.setIfInBounds_toArray, List.set_cons_zero, List.set_cons_succ, i64_w, i32_w]
       rfl
      refine pure_ (i := 3) (N := some 209) (v := ?_) (a' := ?_) (tf 4 14) rfl rfl (any_of HT_.out (by kernel_rfl)) (fun _ _ _ h => h) (Or.inl ⟨by rfl, ?_⟩) ?_ ?_
      rotate_left
      ·intro w'
       go_simp
       with_reducible rfl
      rotate_left
      ·simp only [Act.put, List.setIfInBounds_toArray, List.set_cons_zero, List.set_cons_succ, i64_w, i32_w]
       rfl
      refine pure_ (i := 4) (N := some 210) (v := ?_) (a' := ?_) (tf 5 13) rfl rfl (any_of HT_.out (by kernel_rfl)) (fun _ _ _ h => h) (Or.inl ⟨by rfl, ?_⟩) ?_ ?_
      rotate_left
      ·intro w'
       go_simp
       with_reducible rfl
      rotate_left
      ·simp only [Act.put, List.setIfInBounds_toArray, List.set_cons_zero, List.set_cons_succ, i64_w, i32_w]
       rfl
      refine pure_ (i := 5) (N := some 211) (v := ?_) (a' := ?_) (tf 6 12) rfl rfl (any_of HT_.out (by kernel_rfl)) (fun _ _ _ h => h) (Or.inl ⟨by rfl, ?_⟩) ?_ ?_
      rotate_left
      ·intro w'
       go_simp
       with_reducible rfl
      rotate_left
      ·simp only [Act.put, List.setIfInBounds_toArray, List.set_cons_zero, List.set_cons_succ, i64_w, i32_w]
       rfl
      refine pure_ (i := 6) (N := some 212) (v := ?_) (a' := ?_) (tf 7 11) rfl rfl (any_of HT_.out (by kernel_rfl)) (fun _ _ _ h => h) (Or.inl ⟨by rfl, ?_⟩) ?_ ?_
      rotate_left
      ·intro w'
       go_simp
       with_reducible rfl
      rotate_left
      ·simp only [Act.put, List.setIfInBounds_toArray, List.set_cons_zero, List.set_cons_succ, i64_w, i32_w]
       rfl
      refine pure_ (i := 7) (N := some 213) (v := ?_) (a' := ?_) (tf 8 10) rfl rfl (any_of HT_.out (by kernel_rfl)) (fun _ _ _ h => h) (Or.inl ⟨by rfl, ?_⟩) ?_ ?_
      rotate_left
      ·intro w'
       go_simp
       with_reducible rfl
      rotate_left
      ·simp only [Act.put, List.setIfInBounds_toArray, List.set_cons_zero, List.set_cons_succ, i64_w, i32_w]
       rfl
      refine pure_ (i := 8) (N := some 214) (v := ?_) (a' := ?_) (tf 9 9) rfl rfl (any_of HT_.out (by kernel_rfl)) (fun _ _ _ h => h) (Or.inl ⟨by rfl, ?_⟩) ?_ ?_
      rotate_left
      ·intro w'
       go_simp
       with_reducible rfl
      rotate_left
      ·simp only [Act.put, List.setIfInBounds_toArray, List.set_cons_zero, List.set_cons_succ, i64_w, i32_w]
       rfl
      refine pure_ (i := 9) (N := some 215) (v := ?_) (a' := ?_) (tf 10 8) rfl rfl (any_of HT_.out (by kernel_rfl)) (fun _ _ _ h => h) (Or.inl ⟨by rfl, ?_⟩) ?_ ?_
      rotate_left
      ·intro w'
       go_simp
       with_reducible rfl
      rotate_left
      ·simp only [Act.put, List.setIfInBounds_toArray, List.set_cons_zero, List.set_cons_succ, i64_w, i32_w]
       rfl
      refine pure_ (i := 11) (N := some 217) (v := ?_) (a' := ?_) #[true, true, true, true, true, true, true, true, true, true, false, true, false, false, false, false, false, false] rfl rfl (any_of HT_.out (by kernel_rfl)) (fun _ _ _ h => h) (Or.inl ⟨by rfl, ?_⟩) ?_ ?_
      rotate_left
      ·intro w'
       go_simp
       with_reducible rfl
      rotate_left
      ·simp only [Act.put, List.setIfInBounds_toArray, List.set_cons_zero, List.set_cons_succ, i64_w, i32_w]
       rfl
      refine pure_ (i := 12) (N := some 218) (v := ?_) (a' := ?_) #[true, true, true, true, true, true, true, true, true, true, false, true, true, false, false, false, false, false] rfl rfl (any_of HT_.out (by kernel_rfl)) (fun _ _ _ h => h) (Or.inl ⟨by rfl, ?_⟩) ?_ ?_
      rotate_left
      ·intro w'
       go_simp
       with_reducible rfl
      rotate_left
      ·simp only [Act.put, List.setIfInBounds_toArray, List.set_cons_zero, List.set_cons_succ, i64_w, i32_w]
       rfl
      refine pure_ (i := 13) (N := some 219) (v := ?_) (a' := ?_) #[true, true, true, true, true, true, true, true, true, true, false, true, true, true, false, false, false, false] rfl rfl (any_of HT_.out (by kernel_rfl)) (fun _ _ _ h => h) (Or.inl ⟨by rfl, ?_⟩) ?_ ?_
      rotate_left
      ·intro w'
       go_simp
       with_reducible rfl
      rotate_left
      ·simp only [Act.put, List.setIfInBounds_toArray, List.set_cons_zero, List.set_cons_succ, i64_w, i32_w]
       rfl
      refine take_ (i := 14) (N := some 220) (v := ?_) (a' := ?_) #[true, true, true, true, true, true, true, true, true, true, false, true, true, true, true, false, false, false] rfl rfl (take_ofW HT_.out HW_.out (by kernel_rfl)) (fun _ _ _ h => h) (Or.inl ⟨by rfl, ?_⟩) hHeld ?_ ?_
      rotate_left
      ·intro w' s0
       obtain ⟨z0, z1, _, _⟩ := bk2 s0
       go_simp
       with_reducible rfl
      rotate_left
      ·simp only [Act.put, List.setIfInBounds_toArray, List.set_cons_zero, List.set_cons_succ, i64_w, i32_w]
       rfl
      refine pure_ (i := 15) (N := some 221) (v := ?_) (a' := ?_) #[true, true, true, true, true, true, true, true, true, true, false, true, true, true, true, true, false, false] rfl rfl (any_of HT_.out (by kernel_rfl)) (fun _ _ _ h => h) (Or.inl ⟨by rfl, ?_⟩) ?_ ?_
      rotate_left
      ·intro w'
       go_simp
       with_reducible rfl
      rotate_left
      ·simp only [Act.put, List.setIfInBounds_toArray, List.set_cons_zero, List.set_cons_succ, i64_w, i32_w]
       rfl
      refine one_ (i := 10) (N := some 216) (tf 16 2) rfl rfl (one_of HT_.out (by kernel_rfl)) (by decide) (fun K hK => ?_)
      refine goes_ Try.func41 (by kernel_rfl) rfl #[ptr g6] (by rfl) rfl rfl (by simp only [List.map_toArray, List.map_cons, List.map_nil]; rfl) ?_
      refine (heap_Len.calls H2r.out).mono ?_
      rintro e w9 ⟨rfl, hb9⟩
      refine ⟨_, rfl, ?_⟩
      have HB9 := Aside0.mk (below_step HB2.out hb9)
      have H9 := Aside0.mk (H2r.out.below hb9)
      have HU9 := Aside0.mk (HU2r.out.below hb9)
      refine hK.out _ _ ((blkB hHeld hb9)) (fun hHeld => ?_)
      clear hK K
      refine norm_ (a' := ?_) ?_ ?_
      rotate_left
      ·show Act.put _ (some 216) _ = _
       simp only [Act.put, List.setIfInBounds_toArray, List.set_cons_zero, List.set_cons_succ, i64_w, i32_w]
       rfl
      refine pure_ (i := 16) (N := some 222) (v := ?_) (a' := ?_) (tf 17 1) rfl rfl (any_of HT_.out (by kernel_rfl)) (fun _ _ _ h => h) (Or.inl ⟨by rfl, ?_⟩) ?_ ?_
      rotate_left
      ·intro w'
       go_simp
       with_reducible rfl
      rotate_left
      ·simp only [Act.put, List.setIfInBounds_toArray, List.set_cons_zero, List.set_cons_succ, i64_w, i32_w]
       rfl
      refine pure_ (i := 17) (N := some 223) (v := ?_) (a' := ?_) (tf 18 0) rfl rfl (any_of HT_.out (by kernel_rfl)) (fun _ _ _ h => h) (Or.inl ⟨by rfl, ?_⟩) ?_ ?_
      rotate_left
      ·intro w'
       go_simp
       with_reducible rfl
      rotate_left
      ·simp only [Act.put, List.setIfInBounds_toArray, List.set_cons_zero, List.set_cons_succ, i64_w, i32_w]
       rfl
      refine done_ (done_of HT_.out (by kernel_rfl)) ?_
      clear n1 n2 n3
      go_wp2
      go_roundw
      case rel => exact ⟨i + 1, base6, g6, _, Lz, lok6, _, lokU, rfl, by go_num, by omega, HLz, HCN, HB9, H9, HU9, HA6⟩
      case measure => simp [intOf]; omega
     ·by_cases hD7 : kd = 7
      ·as_aux_lemma =>
       subst hD7
       obtain ⟨y0, y1, y2, y3, y4, _⟩ := bk5 HXB.out
       go_wp2_with fail
       refine (heap_Clone.calls H2.out (by have := HL.out.1; omega) (okL_lens HRS.out HL.out.2)).mono ?_
       rintro e w6 ⟨g6, lv6, lok6, rfl, hp6, hb6⟩
       have H6 := Aside0.mk hp6; have HC6 := Aside0.mk hb6; have HX6 := Aside0.mk (blk_below HXB.out hb6)
       clear y0 y1 y2 y3 y4 hp6 hb6
       obtain ⟨y0, y1, y2, y3, y4, _⟩ := bk5 HX6.out
       go_wp2_with fail
       refine (heap_Set.calls x.f2 x.f3 _ H6.out).mono ?_
       rintro e w7 ⟨rfl, hp7, hk7, hb7⟩
       have H7 := Aside0.mk hp7; have HC7 := Aside0.mk (HC6.out.trans hb7); have HX7 := Aside0.mk (blk_below HXB.out HC7.out)
       clear y0 y1 y2 y3 y4 hp7 hk7 hb7 H6 HC6 HX6
       obtain ⟨y0, y1, y2, y3, y4, _⟩ := bk5 HX7.out
       go_wp2_with fail
       refine (heap_Make.calls x.f1 H7.out (by rw [setO_len]; have := HL.out.1; omega) HS2.out).mono ?_
       rintro e w8 ⟨rfl, lv8, lok8, hp8, hlo8, hk8, hb8⟩
       have HC8 := Aside0.mk (HC7.out.trans hb8)
       have H8 := Aside0.mk (H2.out.below HC8.out); have HU8 := Aside0.mk (HU2.out.below HC8.out); have HB8 := Aside0.mk (below_step HB2.out HC8.out); have HX8 := Aside0.mk (blk_below HXB.out HC8.out)
       clear y0 y1 y2 y3 y4 hp8 hlo8 hk8 hb8 H7 HC7 HX7 HC8 H2 HU2 HB2 HXB HNG HNU
       obtain ⟨Lz, hLz⟩ : ∃ Lz, Lz = L := ⟨_, rfl⟩
       have HLz : Aside0 (Lz.length ≤ i + 1 ∧ OkL l0 Lz) := ⟨by rw [hLz]; exact ⟨by have := HL.out.1; omega, HL.out.2⟩⟩
       rw [← hLz] at H8 HU8
       clear hLz
       obtain ⟨y0, y1, y2, y3, y4, _⟩ := bk5 HX8.out
       go_wp2_with fail
       refine (heap_Get.calls x.f2 x.f3 H8.out).mono ?_
       rintro e wA ⟨rfl, hbA⟩
       have HBA := Aside0.mk (below_step HB8.out hbA); have HTA := Aside0.mk (H8.out.below hbA); have HUA := Aside0.mk (HU8.out.below hbA); have HXA := Aside0.mk (blk_below HX8.out hbA)
       clear y0 y1 y2 y3 y4 hbA HB8 H8 HU8 HX8
       obtain ⟨y0, y1, y2, y3, y4, _⟩ := bk5 HXA.out
       go_wp2_with fail
       refine (ref_Get.calls x.f2 x.f3 HUA.out).mono ?_
       rintro e wC ⟨rfl, hbC⟩
       have HBC := Aside0.mk (below_step HBA.out hbC); have HTC := Aside0.mk (HTA.out.below hbC); have HUC := Aside0.mk (HUA.out.below hbC)
       clear y0 y1 y2 y3 y4 hbC HBA HTA HUA HXA
       have n1 : (getO Lz x.f2 x.f3 != getO Lz x.f2 x.f3) = false := bne_self_eq_false _
       have n2 : (chkE Lz x.f2 x.f3 != chkE Lz x.f2 x.f3) = false := bne_self_eq_false _
       have n3 : ((Lz.length : Int) != (Lz.length : Int)) = false := bne_self_eq_false _
       obtain ⟨Al, cl, el, _, hml⟩ := HUC.out.list
       subst el
       go_upto_region 36 with (fail)
       have HB2 := Aside0.mk (below_drew1 HBC.out)
       have H2r := Aside0.mk (HTC.out.below (below_drew1 (Below.refl _ _)))
       have HU2r := Aside0.mk (HUC.out.below (below_drew1 (Below.refl _ _)))
       clear HBC HTC HUC
       refine start_ (n := 18) (S := fun w' => w'.heap[u]? = some (.cells #[.slice A0 l0.length c0, .slice Al Lz.length cl] 72 (0, 0))) (ds := []) (tf 0 18) (by kernel_rfl) rfl rfl (HU2r.out.blk) (fun hHeld => ?_)
       refine with_tabW truantlaw06_HeapExact.tab36 truantlaw06_HeapExact.bits36 (fun HT_ HW_ => ?_)
       generalize wC.drew = w3a at HB2 H2r HU2r hHeld ⊢
       refine pure_ (i := 0) (N := some 206) (v := ?_) (a' := ?_) (tf 1 17) rfl rfl (any_of HT_.out (by kernel_rfl)) (fun _ _ _ h => h) (Or.inl ⟨by rfl, ?_⟩) ?_ ?_
       rotate_left
       ·intro w'
        go_simp
        with_reducible rfl
       rotate_left
       ·simp only [Act.put, List.setIfInBounds_toArray, List.set_cons_zero, List.set_cons_succ, i64_w, i32_w]
        rfl
       refine pure_ (i := 1) (N := some 207) (v := ?_) (a' := ?_) (tf 2 16) rfl rfl (any_of HT_.out (by kernel_rfl)) (fun _ _ _ h => h) (Or.inl ⟨by rfl, ?_⟩) ?_ ?_
       rotate_left
       ·intro w'
        go_simp
        with_reducible rfl
       rotate_left
       ·simp only [Act.put, List.setIfInBounds_toArray, List.set_cons_zero, List.set_cons_succ, i64_w, i32_w]
        rfl
       refine pure_ (i := 2) (N := some 208) (v := ?_) (a' := ?_) (tf 3 15) rfl rfl (any_of HT_.out (by kernel_rfl)) (fun _ _ _ h => h) (Or.inl ⟨by rfl, ?_⟩) ?_ ?_
       rotate_left
       ·intro w'
        go_simp
        with_reducible rfl
       rotate_left
       ·simp only [Act.put, List.setIfInBounds_toArray, List.set_cons_zero, List.set_cons_succ, i64_w, i32_w]
        rfl
       refine pure_ (i := 3) (N := some 209) (v := ?_) (a' := ?_) (tf 4 14) rfl rfl (any_of HT_.out (by kernel_rfl)) (fun _ _ _ h => h) (Or.inl ⟨by rfl, ?_⟩) ?_ ?_
       rotate_left
       ·intro w'
        go_simp
        with_reducible rfl
       rotate_left
       ·simp only [Act.put, List.setIfInBounds_toArray, List.set_cons_zero, List.set_cons_succ, i64_w, i32_w]
        rfl
       refine pure_ (i := 4) (N := some 210) (v := ?_) (a' := ?_) (tf 5 13) rfl rfl (any_of HT_.out (by kernel_rfl)) (fun _ _ _ h => h) (Or.inl ⟨by rfl, ?_⟩) ?_ ?_
       rotate_left
       ·intro w'
        go_simp
        with_reducible rfl
       rotate_left
       ·simp only [Act.put, List.setIfInBounds_toArray, List.set_cons_zero, List.set_cons_succ, i64_w, i32_w]
        rfl
       refine pure_ (i := 5) (N := some 211) (v := ?_) (a' := ?_) (tf 6 12) rfl rfl (any_of HT_.out (by kernel_rfl)) (fun _ _ _ h => h) (Or.inl ⟨by rfl, ?_⟩) ?_ ?_
       rotate_left
       ·intro w'
        go_simp
        with_reducible rfl
       rotate_left
       ·simp only [Act.put, List.setIfInBounds_toArray, List.set_cons_zero, List.set_cons_succ, i64_w, i32_w]
        rfl
       refine pure_ (i := 6) (N := some 212) (v := ?_) (a' := ?_) (tf 7 11) rfl rfl (any_of HT_.out (by kernel_rfl)) (fun _ _ _ h => h) (Or.inl ⟨by rfl, ?_⟩) ?_ ?_
       rotate_left
       ·intro w'
        go_simp
        with_reducible rfl
       rotate_left
       ·simp only [Act.put, List.setIfInBounds_toArray, List.set_cons_zero, List.set_cons_succ, i64_w, i32_w]
        rfl
       refine pure_ (i := 7) (N := some 213) (v := ?_) (a' := ?_) (tf 8 10) rfl rfl (any_of HT_.out (by kernel_rfl)) (fun _ _ _ h => h) (Or.inl ⟨by rfl, ?_⟩) ?_ ?_
       rotate_left
       ·intro w'
        go_simp
        with_reducible rfl
       rotate_left
       ·simp only [Act.put, List.setIfInBounds_toArray, List.set_cons_zero, List.set_cons_succ, i64_w, i32_w]
        rfl
       refine pure_ (i := 8) (N := some 214) (v := ?_) (a' := ?_) (tf 9 9) rfl rfl (any_of HT_.out (by kernel_rfl)) (fun _ _ _ h => h) (Or.inl ⟨by rfl, ?_⟩) ?_ ?_
       rotate_left
       ·intro w'
        go_simp
        with_reducible rfl
       rotate_left
       ·simp only [Act.put, List.setIfInBounds_toArray, List.set_cons_zero, List.set_cons_succ, i64_w, i32_w]
        rfl
       refine pure_ (i := 9) (N := some 215) (v := ?_) (a' := ?_) (tf 10 8) rfl rfl (any_of HT_.out (by kernel_rfl)) (fun _ _ _ h => h) (Or.inl ⟨by rfl, ?_⟩) ?_ ?_
       rotate_left
       ·intro w'
        go_simp
        with_reducible rfl
       rotate_left
       ·simp only [Act.put, List.setIfInBounds_toArray, List.set_cons_zero, List.set_cons_succ, i64_w, i32_w]
        rfl
       refine pure_ (i := 11) (N := some 217) (v := ?_) (a' := ?_) #[true, true, true, true, true, true, true, true, true, true, false, true, false, false, false, false, false, false] rfl rfl (any_of HT_.out (by kernel_rfl)) (fun _ _ _ h => h) (Or.inl ⟨by rfl, ?_⟩) ?_ ?_
       rotate_left
       ·intro w'
        go_simp
        with_reducible rfl
       rotate_left
       ·simp only [Act.put, List.setIfInBounds_toArray, List.set_cons_zero, List.set_cons_succ, i64_w, i32_w]
        rfl
       refine pure_ (i := 12) (N := some 218) (v := ?_) (a' := ?_) #[true, true, true, true, true, true, true, true, true, true, false, true, true, false, false, false, false, false] rfl rfl (any_of HT_.out (by kernel_rfl)) (fun _ _ _ h => h) (Or.inl ⟨by rfl, ?_⟩) ?_ ?_
       rotate_left
       ·intro w'
        go_simp
        with_reducible rfl
       rotate_left
       ·simp only [Act.put, List.setIfInBounds_toArray, List.set_cons_zero, List.set_cons_succ, i64_w, i32_w]
        rfl
       refine pure_ (i := 13) (N := some 219) (v := ?_) (a' := ?_) #[true, true, true, true, true, true, true, true, true, true, false, true, true, true, false, false, false, false] rfl rfl (any_of HT_.out (by kernel_rfl)) (fun _ _ _ h => h) (Or.inl ⟨by rfl, ?_⟩) ?_ ?_
       rotate_left
       ·intro w'
        go_simp
        with_reducible rfl
       rotate_left
       ·simp only [Act.put, List.setIfInBounds_toArray, List.set_cons_zero, List.set_cons_succ, i64_w, i32_w]
        rfl
       refine take_ (i := 14) (N := some 220) (v := ?_) (a' := ?_) #[true, true, true, true, true, true, true, true, true, true, false, true, true, true, true, false, false, false] rfl rfl (take_ofW HT_.out HW_.out (by kernel_rfl)) (fun _ _ _ h => h) (Or.inl ⟨by rfl, ?_⟩) hHeld ?_ ?_
       rotate_left
       ·intro w' s0
        obtain ⟨z0, z1, _, _⟩ := bk2 s0
        go_simp
        with_reducible rfl
       rotate_left
       ·simp only [Act.put, List.setIfInBounds_toArray, List.set_cons_zero, List.set_cons_succ, i64_w, i32_w]
        rfl
       refine pure_ (i := 15) (N := some 221) (v := ?_) (a' := ?_) #[true, true, true, true, true, true, true, true, true, true, false, true, true, true, true, true, false, false] rfl rfl (any_of HT_.out (by kernel_rfl)) (fun _ _ _ h => h) (Or.inl ⟨by rfl, ?_⟩) ?_ ?_
       rotate_left
       ·intro w'
        go_simp
        with_reducible rfl
       rotate_left
       ·simp only [Act.put, List.setIfInBounds_toArray, List.set_cons_zero, List.set_cons_succ, i64_w, i32_w]
        rfl
       refine one_ (i := 10) (N := some 216) (tf 16 2) rfl rfl (one_of HT_.out (by kernel_rfl)) (by decide) (fun K hK => ?_)
       refine goes_ Try.func41 (by kernel_rfl) rfl #[ptr g] (by rfl) rfl rfl (by simp only [List.map_toArray, List.map_cons, List.map_nil]; rfl) ?_
       refine (heap_Len.calls H2r.out).mono ?_
       rintro e w9 ⟨rfl, hb9⟩
       refine ⟨_, rfl, ?_⟩
       have HB9 := Aside0.mk (below_step HB2.out hb9)
       have H9 := Aside0.mk (H2r.out.below hb9)
       have HU9 := Aside0.mk (HU2r.out.below hb9)
       refine hK.out _ _ ((blkB hHeld hb9)) (fun hHeld => ?_)
       clear hK K
       refine norm_ (a' := ?_) ?_ ?_
       rotate_left
       ·show Act.put _ (some 216) _ = _
        simp only [Act.put, List.setIfInBounds_toArray, List.set_cons_zero, List.set_cons_succ, i64_w, i32_w]
        rfl
       refine pure_ (i := 16) (N := some 222) (v := ?_) (a' := ?_) (tf 17 1) rfl rfl (any_of HT_.out (by kernel_rfl)) (fun _ _ _ h => h) (Or.inl ⟨by rfl, ?_⟩) ?_ ?_
       rotate_left
       ·intro w'
        go_simp
        with_reducible rfl
       rotate_left
       ·simp only [Act.put, List.setIfInBounds_toArray, List.set_cons_zero, List.set_cons_succ, i64_w, i32_w]
        rfl
       refine pure_ (i := 17) (N := some 223) (v := ?_) (a' := ?_) (tf 18 0) rfl rfl (any_of HT_.out (by kernel_rfl)) (fun _ _ _ h => h) (Or.inl ⟨by rfl, ?_⟩) ?_ ?_
       rotate_left
       ·intro w'
        go_simp
        with_reducible rfl
       rotate_left
       ·simp only [Act.put, List.setIfInBounds_toArray, List.set_cons_zero, List.set_cons_succ, i64_w, i32_w]
        rfl
       refine done_ (done_of HT_.out (by kernel_rfl)) ?_
       clear n1 n2 n3
       go_wp2
       go_roundw
       case rel => exact ⟨i + 1, base, g, _, Lz, lok, _, lokU, rfl, by go_num, by omega, HLz, HW, HB9, H9, HU9, HA⟩
       case measure => simp [intOf]; omega
      ·as_aux_lemma =>
       have k1 : (kd == 1) = false := beq_eq_false_iff_ne.mpr (fun e => hA12 (.inl e))
       have k2 : (kd == 2) = false := beq_eq_false_iff_ne.mpr (fun e => hA12 (.inr e))
       have k3 : (kd == 3) = false := beq_eq_false_iff_ne.mpr (fun e => hB (.inl e))
       have k4 : (kd == 4) = false := beq_eq_false_iff_ne.mpr (fun e => hB (.inr (.inl e)))
       have k5 : (kd == 5) = false := beq_eq_false_iff_ne.mpr (fun e => hB (.inr (.inr e)))
       have k6 : (kd == 6) = false := beq_eq_false_iff_ne.mpr hC6
       have k7 : (kd == 7) = false := beq_eq_false_iff_ne.mpr hD7
       clear HNG HNU
       obtain ⟨Lz, hLz⟩ : ∃ Lz, Lz = L := ⟨_, rfl⟩
       have HLz : Aside0 (Lz.length ≤ i + 1 ∧ OkL l0 Lz) := ⟨by rw [hLz]; exact ⟨by have := HL.out.1; omega, HL.out.2⟩⟩
       rw [← hLz] at H2 HU2
       clear hLz
       obtain ⟨y0, y1, y2, y3, y4, _⟩ := bk5 HXB.out
       go_wp2_with fail
       refine (heap_Get.calls x.f2 x.f3 H2.out).mono ?_
       rintro e wA ⟨rfl, hbA⟩
       have HBA := Aside0.mk (below_step HB2.out hbA); have HTA := Aside0.mk (H2.out.below hbA); have HUA := Aside0.mk (HU2.out.below hbA); have HXA := Aside0.mk (blk_below HXB.out hbA)
       clear y0 y1 y2 y3 y4 hbA HB2 H2 HU2 HXB
       obtain ⟨y0, y1, y2, y3, y4, _⟩ := bk5 HXA.out
       go_wp2_with fail
       refine (ref_Get.calls x.f2 x.f3 HUA.out).mono ?_
       rintro e wC ⟨rfl, hbC⟩
       have HBC := Aside0.mk (below_step HBA.out hbC); have HTC := Aside0.mk (HTA.out.below hbC); have HUC := Aside0.mk (HUA.out.below hbC)
       clear y0 y1 y2 y3 y4 hbC HBA HTA HUA HXA
       have n1 : (getO Lz x.f2 x.f3 != getO Lz x.f2 x.f3) = false := bne_self_eq_false _
       have n2 : (chkE Lz x.f2 x.f3 != chkE Lz x.f2 x.f3) = false := bne_self_eq_false _
       have n3 : ((Lz.length : Int) != (Lz.length : Int)) = false := bne_self_eq_false _
       obtain ⟨Al, cl, el, _, hml⟩ := HUC.out.list
       subst el
       go_upto_region 36 with (fail)
       have HB2 := Aside0.mk (below_drew1 HBC.out)
       have H2r := Aside0.mk (HTC.out.below (below_drew1 (Below.refl _ _)))
       have HU2r := Aside0.mk (HUC.out.below (below_drew1 (Below.refl _ _)))
       clear HBC HTC HUC
       refine start_ (n := 18) (S := fun w' => w'.heap[u]? = some (.cells #[.slice A0 l0.length c0, .slice Al Lz.length cl] 72 (0, 0))) (ds := []) (tf 0 18) (by kernel_rfl) rfl rfl (HU2r.out.blk) (fun hHeld => ?_)
       refine with_tabW truantlaw06_HeapExact.tab36 truantlaw06_HeapExact.bits36 (fun HT_ HW_ => ?_)
       generalize wC.drew = w3a at HB2 H2r HU2r hHeld ⊢
       refine pure_ (i := 0) (N := some 206) (v := ?_) (a' := ?_) (tf 1 17) rfl rfl (any_of HT_.out (by kernel_rfl)) (fun _ _ _ h => h) (Or.inl ⟨by rfl, ?_⟩) ?_ ?_
       rotate_left
       ·intro w'
        go_simp
        with_reducible rfl
       rotate_left
       ·simp only [Act.put, List.setIfInBounds_toArray, List.set_cons_zero, List.set_cons_succ, i64_w, i32_w]
        rfl
       refine pure_ (i := 1) (N := some 207) (v := ?_) (a' := ?_) (tf 2 16) rfl rfl (any_of HT_.out (by kernel_rfl)) (fun _ _ _ h => h) (Or.inl ⟨by rfl, ?_⟩) ?_ ?_
       rotate_left
       ·intro w'
        go_simp
        with_reducible rfl
       rotate_left
       ·simp only [Act.put, List.setIfInBounds_toArray, List.set_cons_zero, List.set_cons_succ, i64_w, i32_w]
        rfl
       refine pure_ (i := 2) (N := some 208) (v := ?_) (a' := ?_) (tf 3 15) rfl rfl (any_of HT_.out (by kernel_rfl)) (fun _ _ _ h => h) (Or.inl ⟨by rfl, ?_⟩) ?_ ?_
       rotate_left
       ·intro w'
        go_simp
        with_reducible rfl
       rotate_left
       ·simp only [Act.put, List.setIfInBounds_toArray, List.set_cons_zero, List.set_cons_succ, i64_w, i32_w]
        rfl
       refine pure_ (i := 3) (N := some 209) (v := ?_) (a' := ?_) (tf 4 14) rfl rfl (any_of HT_.out (by kernel_rfl)) (fun _ _ _ h => h) (Or.inl ⟨by rfl, ?_⟩) ?_ ?_
       rotate_left
       ·intro w'
        go_simp
        with_reducible rfl
       rotate_left
       ·simp only [Act.put, List.setIfInBounds_toArray, List.set_cons_zero, List.set_cons_succ, i64_w, i32_w]
        rfl
       refine pure_ (i := 4) (N := some 210) (v := ?_) (a' := ?_) (tf 5 13) rfl rfl (any_of HT_.out (by kernel_rfl)) (fun _ _ _ h => h) (Or.inl ⟨by rfl, ?_⟩) ?_ ?_
       rotate_left
       ·intro w'
        go_simp
        with_reducible rfl
       rotate_left
       ·simp only [Act.put, List.setIfInBounds_toArray, List.set_cons_zero, List.set_cons_succ, i64_w, i32_w]
        rfl
       refine pure_ (i := 5) (N := some 211) (v := ?_) (a' := ?_) (tf 6 12) rfl rfl (any_of HT_.out (by kernel_rfl)) (fun _ _ _ h => h) (Or.inl ⟨by rfl, ?_⟩) ?_ ?_
       rotate_left
       ·intro w'
        go_simp
        with_reducible rfl
       rotate_left
       ·simp only [Act.put, List.setIfInBounds_toArray, List.set_cons_zero, List.set_cons_succ, i64_w, i32_w]
        rfl
       refine pure_ (i := 6) (N := some 212) (v := ?_) (a' := ?_) (tf 7 11) rfl rfl (any_of HT_.out (by kernel_rfl)) (fun _ _ _ h => h) (Or.inl ⟨by rfl, ?_⟩) ?_ ?_
       rotate_left
       ·intro w'
        go_simp
        with_reducible rfl
       rotate_left
       ·simp only [Act.put, List.setIfInBounds_toArray, List.set_cons_zero, List.set_cons_succ, i64_w, i32_w]
        rfl
       refine pure_ (i := 7) (N := some 213) (v := ?_) (a' := ?_) (tf 8 10) rfl rfl (any_of HT_.out (by kernel_rfl)) (fun _ _ _ h => h) (Or.inl ⟨by rfl, ?_⟩) ?_ ?_
       rotate_left
       ·intro w'
        go_simp
        with_reducible rfl
       rotate_left
       ·simp only [Act.put, List.setIfInBounds_toArray, List.set_cons_zero, List.set_cons_succ, i64_w, i32_w]
        rfl
       refine pure_ (i := 8) (N := some 214) (v := ?_) (a' := ?_) (tf 9 9) rfl rfl (any_of HT_.out (by kernel_rfl)) (fun _ _ _ h => h) (Or.inl ⟨by rfl, ?_⟩) ?_ ?_
       rotate_left
       ·intro w'
        go_simp
        with_reducible rfl
       rotate_left
       ·simp only [Act.put, List.setIfInBounds_toArray, List.set_cons_zero, List.set_cons_succ, i64_w, i32_w]
        rfl
       refine pure_ (i := 9) (N := some 215) (v := ?_) (a' := ?_) (tf 10 8) rfl rfl (any_of HT_.out (by kernel_rfl)) (fun _ _ _ h => h) (Or.inl ⟨by rfl, ?_⟩) ?_ ?_
       rotate_left
       ·intro w'
        go_simp
        with_reducible rfl
       rotate_left
       ·simp only [Act.put, List.setIfInBounds_toArray, List.set_cons_zero, List.set_cons_succ, i64_w, i32_w]
        rfl
       refine pure_ (i := 11) (N := some 217) (v := ?_) (a' := ?_) #[true, true, true, true, true, true, true, true, true, true, false, true, false, false, false, false, false, false] rfl rfl (any_of HT_.out (by kernel_rfl)) (fun _ _ _ h => h) (Or.inl ⟨by rfl, ?_⟩) ?_ ?_
       rotate_left
       ·intro w'
        go_simp
        with_reducible rfl
       rotate_left
       ·simp only [Act.put, List.setIfInBounds_toArray, List.set_cons_zero, List.set_cons_succ, i64_w, i32_w]
        rfl
       refine pure_ (i := 12) (N := some 218) (v := ?_) (a' := ?_) #[true, true, true, true, true, true, true, true, true, true, false, true, true, false, false, false, false, false] rfl rfl (any_of HT_.out (by kernel_rfl)) (fun _ _ _ h => h) (Or.inl ⟨by rfl, ?_⟩) ?_ ?_
       rotate_left
       ·intro w'
        go_simp
        with_reducible rfl
       rotate_left
       ·simp only [Act.put, List.setIfInBounds_toArray, List.set_cons_zero, List.set_cons_succ, i64_w, i32_w]
        rfl
       refine pure_ (i := 13) (N := some 219) (v := ?_) (a' := ?_) #[true, true, true, true, true, true, true, true, true, true, false, true, true, true, false, false, false, false] rfl rfl (any_of HT_.out (by kernel_rfl)) (fun _ _ _ h => h) (Or.inl ⟨by rfl, ?_⟩) ?_ ?_
       rotate_left
       ·intro w'
        go_simp
        with_reducible rfl
       rotate_left
       ·simp only [Act.put, List.setIfInBounds_toArray, List.set_cons_zero, List.set_cons_succ, i64_w, i32_w]
        rfl
       refine take_ (i := 14) (N := some 220) (v := ?_) (a' := ?_) #[true, true, true, true, true, true, true, true, true, true, false, true, true, true, true, false, false, false] rfl rfl (take_ofW HT_.out HW_.out (by kernel_rfl)) (fun _ _ _ h => h) (Or.inl ⟨by rfl, ?_⟩) hHeld ?_ ?_
       rotate_left
       ·intro w' s0
        obtain ⟨z0, z1, _, _⟩ := bk2 s0
        go_simp
        with_reducible rfl
       rotate_left
       ·simp only [Act.put, List.setIfInBounds_toArray, List.set_cons_zero, List.set_cons_succ, i64_w, i32_w]
        rfl
       refine pure_ (i := 15) (N := some 221) (v := ?_) (a' := ?_) #[true, true, true, true, true, true, true, true, true, true, false, true, true, true, true, true, false, false] rfl rfl (any_of HT_.out (by kernel_rfl)) (fun _ _ _ h => h) (Or.inl ⟨by rfl, ?_⟩) ?_ ?_
       rotate_left
       ·intro w'
        go_simp
        with_reducible rfl
       rotate_left
       ·simp only [Act.put, List.setIfInBounds_toArray, List.set_cons_zero, List.set_cons_succ, i64_w, i32_w]
        rfl
       refine one_ (i := 10) (N := some 216) (tf 16 2) rfl rfl (one_of HT_.out (by kernel_rfl)) (by decide) (fun K hK => ?_)
       refine goes_ Try.func41 (by kernel_rfl) rfl #[ptr g] (by rfl) rfl rfl (by simp only [List.map_toArray, List.map_cons, List.map_nil]; rfl) ?_
       refine (heap_Len.calls H2r.out).mono ?_
       rintro e w9 ⟨rfl, hb9⟩
       refine ⟨_, rfl, ?_⟩
       have HB9 := Aside0.mk (below_step HB2.out hb9)
       have H9 := Aside0.mk (H2r.out.below hb9)
       have HU9 := Aside0.mk (HU2r.out.below hb9)
       refine hK.out _ _ ((blkB hHeld hb9)) (fun hHeld => ?_)
       clear hK K
       refine norm_ (a' := ?_) ?_ ?_
       rotate_left
       ·show Act.put _ (some 216) _ = _
        simp only [Act.put, List.setIfInBounds_toArray, List.set_cons_zero, List.set_cons_succ, i64_w, i32_w]
        rfl
       refine pure_ (i := 16) (N := some 222) (v := ?_) (a' := ?_) (tf 17 1) rfl rfl (any_of HT_.out (by kernel_rfl)) (fun _ _ _ h => h) (Or.inl ⟨by rfl, ?_⟩) ?_ ?_
       rotate_left
       ·intro w'
        go_simp
        with_reducible rfl
       rotate_left
       ·simp only [Act.put, List.setIfInBounds_toArray, List.set_cons_zero, List.set_cons_succ, i64_w, i32_w]
        rfl
       refine pure_ (i := 17) (N := some 223) (v := ?_) (a' := ?_) (tf 18 0) rfl rfl (any_of HT_.out (by kernel_rfl)) (fun _ _ _ h => h) (Or.inl ⟨by rfl, ?_⟩) ?_ ?_
       rotate_left
       ·intro w'
        go_simp
        with_reducible rfl
       rotate_left
       ·simp only [Act.put, List.setIfInBounds_toArray, List.set_cons_zero, List.set_cons_succ, i64_w, i32_w]
        rfl
       refine done_ (done_of HT_.out (by kernel_rfl)) ?_
       clear n1 n2 n3
       go_wp2
       go_roundw
       case rel => exact ⟨i + 1, base, g, _, Lz, lok, _, lokU, rfl, by go_num, by omega, HLz, HW, HB9, H9, HU9, HA⟩
       case measure => simp [intOf]; omega
  ·as_aux_lemma =>
   have hlm : L.length ≤ 80 := by have := HL.out.1; have := HLN.out; omega
   have HOK := Aside0.mk HL.out.2
   obtain ⟨Al, cl, el, _, hml⟩ := HUx.out.list
   subst el
   go_wp2_with fail
   go_loopw [26, 27, 28, 29] (fun v26 _ _ _ wr => ∃ j : Nat, v26 = .int .i64 j ∧ j ≤ L.length ∧ Aside0 (Below w.heap.size w wr) ∧ Aside0 (HP wr base g sv lv l0 L sok lok) ∧ Aside0 (HU wr u u (.slice A0 l0.length c0) (.slice Al L.length cl) l0 L (fun k => k < w.heap.size) lokU)) (fun v26 _ _ _ _ => L.length - (intOf v26).toNat)
   case atStart => exact ⟨0, rfl, Nat.zero_le _, HB, H, HUx⟩
   case round =>
    clear HB H HUx
    obtain ⟨j, rfl, hj, HBj, Hj, HUj⟩ := hrel
    obtain ⟨q0, q1, _, _⟩ := bk2 HUj.out.blk
    by_cases hjl : j < L.length
    ·have hjli : (j : Int) < (L.length : Int) := by omega
     obtain ⟨adL, clL, A1', c1', hA, _, p2, p3, p4, p5⟩ := HUj.out.elem (j : Int) (by omega) (by omega)
     cases hA
     obtain ⟨o, ho⟩ : ∃ o, o = rdO L (j : Int) := ⟨_, rfl⟩
     have HOO := Aside0.mk ho
     rw [← ho] at p2
     obtain ⟨o0, o1, o2, _⟩ := HOK.out.all _ (HOK.out.at (i := (j : Int)) (by omega) (by omega))
     rw [← ho] at o0 o1 o2
     obtain ⟨m, hm'⟩ : ∃ m : Nat, o.1 = m := ⟨o.1.toNat, by omega⟩
     rw [hm'] at o1 o2 p2
     simp only [Int.toNat_natCast] at p2
     obtain ⟨y, hy⟩ : ∃ y, y = rd_T43 l0 (m : Int) := ⟨_, rfl⟩
     obtain ⟨sd, B1, d1, e2, s0, s1, _, _⟩ := at_T43 (Kd.C_below HR0.out HBj.out) (m : Int) (by omega) (by omega)
     subst e2
     rw [← hy] at s0 o2
     simp only [Int.toNat_natCast] at s0
     have HOF : Aside0 (ofO l0 L ((j : Int) + 1) = y.f0) := ⟨by unfold ofO; rw [if_pos (show isO L ((j : Int) + 1) = true from decide_eq_true (by omega)), show (j : Int) + 1 - 1 = j by omega, ← ho, hm', ← hy]⟩
     have HO2 : Aside0 (o.2.length ≤ 1000) := ⟨by rw [o2, hy]; exact HRS.out.fields _ (by unfold rd_T43; rw [getD_at _ _ (by omega)]; exact List.getElem_mem _)⟩
     have hw : IntKind.i64.wrap ((j : Int) + 1) = (j : Int) + 1 := by rw [IntKind.wrap_i64]; omega
     have n1 : (y.f0.toList != y.f0.toList) = false := bne_self_eq_false _
     have hsm : l0.length ≤ 9223372036854775807 := by have := HRS.out.len; omega
     clear ho hm' hy o2 s1 p3 p4 p5
     go_upto_region 41 with (fail)
     have HB2 := Aside0.mk (below_drew1 HBj.out)
     have H2r := Aside0.mk (Hj.out.below (below_drew1 (Below.refl _ _)))
     have HU2r := Aside0.mk (HUj.out.below (below_drew1 (Below.refl _ _)))
     have HP2 := Aside0.mk (pw_cell_below (below_drew1 (Below.refl _ _)) p2)
     have HS0 := Aside0.mk (pw_cell_below (below_drew1 (Below.refl _ _)) s0)
     clear HBj Hj HUj p2 s0 q0 q1
     refine start_ (n := 17) (S := fun w' => w'.heap[u]? = some (.cells #[.slice (some sd) l0.length c0, .slice (some adL) L.length cl] 72 (0, 0)) ∧ w'.cell? (adL.add (j * 2)) = some (.int .i64 m) ∧ w'.cell? (sd.add (m * 2)) = some (.string y.f0)) (ds := []) (tf 0 17) (by kernel_rfl) rfl rfl ⟨HU2r.out.blk, HP2.out, HS0.out⟩ (fun hHeld => ?_)
     refine with_tabW truantlaw06_HeapExact.tab41 truantlaw06_HeapExact.bits41 (fun HT_ HW_ => ?_)
     generalize wr.drew = w3a at HB2 H2r HU2r HP2 HS0 hHeld ⊢
     refine pure_ (i := 0) (N := some 233) (v := ?_) (a' := ?_) (tf 1 16) rfl rfl (any_of HT_.out (by kernel_rfl)) (fun _ _ _ h => h) (Or.inl ⟨by rfl, ?_⟩) ?_ ?_
     rotate_left
     ·intro w'
      go_simp
      with_reducible rfl
     rotate_left
     ·simp only [Act.put, List.setIfInBounds_toArray, List.set_cons_zero, List.set_cons_succ, i64_w, i32_w]
      rfl
     refine pure_ (i := 1) (N := some 234) (v := ?_) (a' := ?_) (tf 2 15) rfl rfl (any_of HT_.out (by kernel_rfl)) (fun _ _ _ h => h) (Or.inl ⟨by rfl, ?_⟩) ?_ ?_
     rotate_left
     ·intro w'
      go_simp
      with_reducible rfl
     rotate_left
     ·simp only [Act.put, List.setIfInBounds_toArray, List.set_cons_zero, List.set_cons_succ, i64_w, i32_w]
      rfl
     refine pure_ (i := 2) (N := some 235) (v := ?_) (a' := ?_) (tf 3 14) rfl rfl (any_of HT_.out (by kernel_rfl)) (fun _ _ _ h => h) (Or.inl ⟨by rfl, ?_⟩) ?_ ?_
     rotate_left
     ·intro w'
      go_simp
      with_reducible rfl
     rotate_left
     ·simp only [Act.put, List.setIfInBounds_toArray, List.set_cons_zero, List.set_cons_succ, i64_w, i32_w]
      rfl
     refine pure_ (i := 4) (N := some 237) (v := ?_) (a' := ?_) #[true, true, true, false, true, false, false, false, false, false, false, false, false, false, false, false, false] rfl rfl (any_of HT_.out (by kernel_rfl)) (fun _ _ _ h => h) (Or.inl ⟨by rfl, ?_⟩) ?_ ?_
     rotate_left
     ·intro w'
      go_simp
      with_reducible rfl
     rotate_left
     ·simp only [Act.put, List.setIfInBounds_toArray, List.set_cons_zero, List.set_cons_succ, i64_w, i32_w]
      rfl
     refine pure_ (i := 5) (N := some 238) (v := ?_) (a' := ?_) #[true, true, true, false, true, true, false, false, false, false, false, false, false, false, false, false, false] rfl rfl (any_of HT_.out (by kernel_rfl)) (fun _ _ _ h => h) (Or.inl ⟨by rfl, ?_⟩) ?_ ?_
     rotate_left
     ·intro w'
      go_simp
      with_reducible rfl
     rotate_left
     ·simp only [Act.put, List.setIfInBounds_toArray, List.set_cons_zero, List.set_cons_succ, i64_w, i32_w]
      rfl
     refine pure_ (i := 6) (N := some 239) (v := ?_) (a' := ?_) #[true, true, true, false, true, true, true, false, false, false, false, false, false, false, false, false, false] rfl rfl (any_of HT_.out (by kernel_rfl)) (fun _ _ _ h => h) (Or.inl ⟨by rfl, ?_⟩) ?_ ?_
     rotate_left
     ·intro w'
      go_simp
      with_reducible rfl
     rotate_left
     ·simp only [Act.put, List.setIfInBounds_toArray, List.set_cons_zero, List.set_cons_succ, i64_w, i32_w]
      rfl
     refine pure_ (i := 7) (N := some 240) (v := ?_) (a' := ?_) #[true, true, true, false, true, true, true, true, false, false, false, false, false, false, false, false, false] rfl rfl (any_of HT_.out (by kernel_rfl)) (fun _ _ _ h => h) (Or.inl ⟨by rfl, ?_⟩) ?_ ?_
     rotate_left
     ·intro w'
      go_simp
      with_reducible rfl
     rotate_left
     ·simp only [Act.put, List.setIfInBounds_toArray, List.set_cons_zero, List.set_cons_succ, i64_w, i32_w]
      rfl
     refine pure_ (i := 9) (N := some 242) (v := ?_) (a' := ?_) #[true, true, true, false, true, true, true, true, false, true, false, false, false, false, false, false, false] rfl rfl (any_of HT_.out (by kernel_rfl)) (fun _ _ _ h => h) (Or.inl ⟨by rfl, ?_⟩) ?_ ?_
     rotate_left
     ·intro w'
      go_simp
      with_reducible rfl
     rotate_left
     ·simp only [Act.put, List.setIfInBounds_toArray, List.set_cons_zero, List.set_cons_succ, i64_w, i32_w]
      rfl
     refine take_ (i := 8) (N := some 241) (v := ?_) (a' := ?_) #[true, true, true, false, true, true, true, true, true, true, false, false, false, false, false, false, false] rfl rfl (take_ofW HT_.out HW_.out (by kernel_rfl)) (fun _ _ _ h => h) (Or.inl ⟨by rfl, ?_⟩) hHeld ?_ ?_
     rotate_left
     ·rintro w' ⟨s0, s1, s2⟩
      obtain ⟨z0, z1, _, _⟩ := bk2 s0
      go_simp
      with_reducible rfl
     rotate_left
     ·simp only [Act.put, List.setIfInBounds_toArray, List.set_cons_zero, List.set_cons_succ, i64_w, i32_w]
      rfl
     refine pure_ (i := 10) (N := some 243) (v := ?_) (a' := ?_) #[true, true, true, false, true, true, true, true, true, true, true, false, false, false, false, false, false] rfl rfl (any_of HT_.out (by kernel_rfl)) (fun _ _ _ h => h) (Or.inl ⟨by rfl, ?_⟩) ?_ ?_
     rotate_left
     ·intro w'
      go_simp
      with_reducible rfl
     rotate_left
     ·simp only [Act.put, List.setIfInBounds_toArray, List.set_cons_zero, List.set_cons_succ, i64_w, i32_w]
      rfl
     refine pure_ (i := 11) (N := some 244) (v := ?_) (a' := ?_) #[true, true, true, false, true, true, true, true, true, true, true, true, false, false, false, false, false] rfl rfl (any_of HT_.out (by kernel_rfl)) (fun _ _ _ h => h) (Or.inl ⟨by rfl, ?_⟩) ?_ ?_
     rotate_left
     ·intro w'
      go_simp
      with_reducible rfl
     rotate_left
     ·simp only [Act.put, List.setIfInBounds_toArray, List.set_cons_zero, List.set_cons_succ, i64_w, i32_w]
      rfl
     refine take_ (i := 12) (N := some 245) (v := ?_) (a' := ?_) #[true, true, true, false, true, true, true, true, true, true, true, true, true, false, false, false, false] rfl rfl (take_ofW HT_.out HW_.out (by kernel_rfl)) (fun _ _ _ h => h) (Or.inl ⟨by rfl, ?_⟩) hHeld ?_ ?_
     rotate_left
     ·rintro w' ⟨s0, s1, s2⟩
      go_simp
      with_reducible rfl
     rotate_left
     ·simp only [Act.put, List.setIfInBounds_toArray, List.set_cons_zero, List.set_cons_succ, i64_w, i32_w]
      rfl
     refine pure_ (i := 13) (N := some 246) (v := ?_) (a' := ?_) #[true, true, true, false, true, true, true, true, true, true, true, true, true, true, false, false, false] rfl rfl (any_of HT_.out (by kernel_rfl)) (fun _ _ _ h => h) (Or.inl ⟨by rfl, ?_⟩) ?_ ?_
     rotate_left
     ·intro w'
      go_simp
      with_reducible rfl
     rotate_left
     ·simp only [Act.put, List.setIfInBounds_toArray, List.set_cons_zero, List.set_cons_succ, i64_w, i32_w]
      rfl
     refine pure_ (i := 14) (N := some 247) (v := ?_) (a' := ?_) #[true, true, true, false, true, true, true, true, true, true, true, true, true, true, true, false, false] rfl rfl (any_of HT_.out (by kernel_rfl)) (fun _ _ _ h => h) (Or.inl ⟨by rfl, ?_⟩) ?_ ?_
     rotate_left
     ·intro w'
      go_simp
      with_reducible rfl
     rotate_left
     ·simp only [Act.put, List.setIfInBounds_toArray, List.set_cons_zero, List.set_cons_succ, i64_w, i32_w]
      rfl
     refine take_ (i := 15) (N := some 248) (v := ?_) (a' := ?_) #[true, true, true, false, true, true, true, true, true, true, true, true, true, true, true, true, false] rfl rfl (take_ofW HT_.out HW_.out (by kernel_rfl)) (fun _ _ _ h => h) (Or.inl ⟨by rfl, ?_⟩) hHeld ?_ ?_
     rotate_left
     ·rintro w' ⟨s0, s1, s2⟩
      go_simp
      with_reducible rfl
     rotate_left
     ·simp only [Act.put, List.setIfInBounds_toArray, List.set_cons_zero, List.set_cons_succ, i64_w, i32_w]
      rfl
     refine one_ (i := 3) (N := some 236) (tf 16 1) rfl rfl (one_of HT_.out (by kernel_rfl)) (by decide) (fun K hK => ?_)
     refine goes_ Try.func40 (by kernel_rfl) rfl #[ptr g, .int .i64 ((j : Int) + 1)] (by rfl) rfl rfl (by simp only [List.map_toArray, List.map_cons, List.map_nil]; rfl) ?_
     have hof := heap_Of.calls ((j : Int) + 1) H2r.out HOK.out
     rw [HOF.out] at hof
     refine hof.mono ?_
     clear hof
     rintro e w9 ⟨rfl, hb9⟩
     refine ⟨_, rfl, ?_⟩
     have HB9 := Aside0.mk (below_step HB2.out hb9)
     have H9 := Aside0.mk (H2r.out.below hb9)
     have HU9 := Aside0.mk (HU2r.out.below hb9)
     refine hK.out _ _ ⟨(blkB hHeld.1 hb9), (pw_cell_below hb9 hHeld.2.1), (pw_cell_below hb9 hHeld.2.2)⟩ (fun hHeld => ?_)
     clear hK K
     refine norm_ (a' := ?_) ?_ ?_
     rotate_left
     ·show Act.put _ (some 236) _ = _
      simp only [Act.put, List.setIfInBounds_toArray, List.set_cons_zero, List.set_cons_succ, i64_w, i32_w]
      rfl
     refine pure_ (i := 16) (N := some 249) (v := ?_) (a' := ?_) (tf 17 0) rfl rfl (any_of HT_.out (by kernel_rfl)) (fun _ _ _ h => h) (Or.inl ⟨by rfl, ?_⟩) ?_ ?_
     rotate_left
     ·intro w'
      go_simp
      with_reducible rfl
     rotate_left
     ·simp only [Act.put, List.setIfInBounds_toArray, List.set_cons_zero, List.set_cons_succ, i64_w, i32_w]
      rfl
     refine done_ (done_of HT_.out (by kernel_rfl)) ?_
     clear n1 HP2 HS0
     go_wp2_with fail
     go_loopw [27, 28, 29] (fun v27 _ _ wr => ∃ q : Nat, v27 = .int .i64 q ∧ q ≤ o.2.length ∧ Aside0 (Below w.heap.size w wr) ∧ Aside0 (HP wr base g sv lv l0 L sok lok) ∧ Aside0 (HU wr u u (.slice (some sd) l0.length c0) (.slice (some adL) L.length cl) l0 L (fun k => k < w.heap.size) lokU)) (fun v27 _ _ _ => o.2.length - (intOf v27).toNat)
     case atStart => exact ⟨0, rfl, Nat.zero_le _, HB9, H9, HU9⟩
     case round =>
      clear HB9 H9 HU9
      obtain ⟨q, rfl, hq, HBq, Hq, HUq⟩ := hrel
      obtain ⟨q0, q1, _, _⟩ := bk2 HUq.out.blk
      obtain ⟨_, _, A2', c2', hA, _, _, p3, _, _⟩ := HUq.out.elem (j : Int) (by omega) (by omega)
      cases hA
      rw [← HOO.out] at p3
      simp only [Int.toNat_natCast] at p3
      by_cases hqo : q < o.2.length
      ·have hqoi : (q : Int) < (o.2.length : Int) := by omega
       have hcg := heap_Get.calls ((j : Int) + 1) (q : Int) Hq.out
       have hck0 : chkE L ((j : Int) + 1) (q : Int) = 0 := by
        unfold chkE
        rw [if_neg (by omega), if_neg (by omega), show (j : Int) + 1 - 1 = j by omega, ← HOO.out, if_neg (by omega)]
       have hge : getO L ((j : Int) + 1) (q : Int) = rd o.2 (q : Int) := by
        unfold getO
        rw [if_pos hck0, show (j : Int) + 1 - 1 = j by omega, ← HOO.out]
       obtain ⟨z, hz⟩ : ∃ z, z = rd o.2 (q : Int) := ⟨_, rfl⟩
       rw [hck0, hge, ← hz] at hcg
       have HCG := Aside0.mk hcg
       have HZ := Aside0.mk hz
       clear hcg hck0 hge hz
       go_wp2_with fail
       refine HCG.out.mono ?_
       rintro e w7 ⟨rfl, hb7⟩
       have HB7 := Aside0.mk (below_step HBq.out hb7); have H7 := Aside0.mk (Hq.out.below hb7); have HU7 := Aside0.mk (HUq.out.below hb7)
       clear hb7 q0 q1 p3 HCG HBq Hq HUq
       obtain ⟨q0, q1, _, _⟩ := bk2 HU7.out.blk
       obtain ⟨_, _, A3', c3', hA, _, _, p3, _, p5⟩ := HU7.out.elem (j : Int) (by omega) (by omega)
       cases hA
       rw [← HOO.out] at p3 p5
       simp only [Int.toNat_natCast] at p3
       obtain ⟨ak, eak, hkc⟩ := Kd.at_int p5 (q : Int) (by omega) (by omega)
       subst eak
       simp only [Int.toNat_natCast] at hkc
       rw [← HZ.out] at hkc
       have n1 : (z != z) = false := bne_self_eq_false _
       have hom : o.2.length ≤ 9223372036854775807 := by have := HO2.out; omega
       clear p5
       go_wp2
       go_roundw
       case rel => exact ⟨q + 1, by go_num, by omega, HB7, H7, HU7⟩
       case measure => simp [intOf]; omega
      ·have hom : o.2.length ≤ 9223372036854775807 := by have := HO2.out; omega
       go_wp2
       go_roundw
       case rel => exact ⟨j + 1, by go_num, by omega, HBq, Hq, HUq⟩
       case measure => simp [intOf]; omega
    ·obtain ⟨out, hcame, hcalls⟩ := reach_calls A2 c2 l2 Hj.out HOK.out HRS.out (Kd.C_below HR2.out HBj.out) HC2.out (by have := HL2.out; omega)
     obtain ⟨r, hr⟩ : ∃ r, r = out.mergeSort fun x y => decide (x ≤ y) := ⟨_, rfl⟩
     have hlim : (List.replicate (L.length + 1) false).count false * (1000 + 1) + l2.length + 1000 < LIMR := by
      rw [List.count_replicate_self]
      have := HL2.out
      unfold LIMR
      omega
     obtain ⟨Wb, hrun, hbf⟩ := bfs_run (nn := linkF l0 L) (B := 1000) (fun x _ => linkF_len L HRS.out.fields x) _ l2 (List.replicate (L.length + 1) false) (Nat.le_refl _) hlim List.length_replicate
     have HRN := Aside0.mk (hrun _ (Nat.lt_succ_self _))
     have HSA : Aside0 (∀ x, isO L x = true → (rdOf false Wb x = true ↔ x ∈ r)) := ⟨fun x hx => by rw [bf_same hcame hbf x hx, hr, List.mem_mergeSort]⟩
     have hwl : Wb.length = L.length + 1 := by rw [hbf.len, List.length_replicate]
     have HUP : Aside0 (r.Pairwise (· < ·)) := ⟨by rw [hr]; exact sort_up hcame.nodup⟩
     have HIS : Aside0 (∀ x ∈ r, isO L x = true) := ⟨fun x hx => hcame.is x (by rw [hr, List.mem_mergeSort] at hx; exact hx)⟩
     have hrl : r.length ≤ 1000000000 := by rw [hr, List.length_mergeSort]; exact hcame.len
     rw [← hr] at hcalls
     have HCALL := Aside0.mk hcalls
     clear hcalls hcame hr hrun hbf hlim
     go_wp2_with fail
     refine HCALL.out.mono ?_
     rintro e w6 ⟨v6, rfl, hr6, hb6⟩
     obtain ⟨A4, c4, rfl, hc4, hC4⟩ := Kd.R_reads hr6
     have HB6 := Aside0.mk (below_step HBj.out hb6); have H6 := Aside0.mk (Hj.out.below hb6); have HU6 := Aside0.mk (HUj.out.below hb6); have HC4 := Aside0.mk hC4
     clear hr6 hb6 hc4 hC4 HCALL HBj Hj HUj q0 q1
     go_wp2_with fail
     refine (ref_Reach.calls _ A2 c2 l2 Wb HU6.out HOK.out HRS.out (Kd.C_below HR2.out HB6.out) HC2.out (by have := HL2.out; omega) HRN.out).mono ?_
     rintro e w7 ⟨v7, rfl, hr7, hb7⟩
     obtain ⟨A5, c5, rfl, hc5, hC5⟩ := Kd.R_reads hr7
     have HB7 := Aside0.mk (below_step HB6.out hb7); have H7 := Aside0.mk (H6.out.below hb7); have HU7 := Aside0.mk (HU6.out.below hb7); have HC7 := Aside0.mk (Kd.C_below HC4.out hb7); have HC5 := Aside0.mk hC5
     clear hr7 hb7 hc5 hC5 HB6 H6 HU6 HC4 HRN
     have HWL := Aside0.mk hwl
     have hwm : Wb.length ≤ 200000 := by omega
     clear hwl
     go_wp2_with fail
     go_loopw [32, 33] (fun v32 v33 wr => ∃ n i : Nat, v32 = .int .i64 n ∧ v33 = .int .i64 i ∧ 1 ≤ i ∧ i ≤ Wb.length ∧ n ≤ r.length ∧ Aside0 (CntI r n i) ∧ Aside0 (Below w.heap.size w wr) ∧ Aside0 (HP wr base g sv lv l0 L sok lok) ∧ Aside0 (HU wr u u (.slice A0 l0.length c0) (.slice Al L.length cl) l0 L (fun k => k < w.heap.size) lokU) ∧ Aside0 ((Kd.int .i64).C wr A4 r.length r) ∧ Aside0 (Kd.bool.C wr A5 Wb.length Wb)) (fun _ v33 _ => Wb.length - (intOf v33).toNat)
     case atStart => exact ⟨0, 1, rfl, rfl, Nat.le_refl _, by have := HWL.out; omega, Nat.zero_le _, ⟨cnt_zero HIS.out⟩, HB7, H7, HU7, HC7, HC5⟩
     case round =>
      clear HB7 H7 HU7 HC7 HC5
      obtain ⟨n, i, rfl, rfl, hi1, hi2, hn, HCN, HBn, Hn, HUn, HCr, HCw⟩ := hrel
      by_cases hiw : i < Wb.length
      ·have hiwi : (i : Int) < (Wb.length : Int) := by omega
       obtain ⟨a5, e5, hw5⟩ := Kd.at_bool HCw.out (i : Int) (by omega) (by omega)
       subst e5
       simp only [Int.toNat_natCast] at hw5
       have hF : isO L (i : Int) = true := decide_eq_true (by have := HWL.out; omega)
       cases hbit : rdOf false Wb (i : Int) with
       | false =>
        rw [hbit] at hw5
        have HC2n : Aside0 (CntI r n (i + 1)) := ⟨HCN.out.miss (fun hm => by rw [(HSA.out _ hF).mpr hm] at hbit; cases hbit)⟩
        clear hbit HCN
        go_wp2
        go_roundw
        case rel => exact ⟨n, i + 1, rfl, by go_num, by omega, by omega, hn, HC2n, HBn, Hn, HUn, HCr, HCw⟩
        case measure => simp [intOf]; omega
       | true =>
        rw [hbit] at hw5
        obtain ⟨hnr, hri⟩ := HCN.out.hit HUP.out ((HSA.out _ hF).mp hbit)
        have HC2n : Aside0 (CntI r (n + 1) (i + 1)) := ⟨HCN.out.next HUP.out hnr hri⟩
        obtain ⟨a4, e4, hx4⟩ := Kd.at_int HCr.out (n : Int) (by omega) (by omega)
        subst e4
        simp only [Int.toNat_natCast] at hx4
        rw [hri] at hx4
        have hnri : (n : Int) < (r.length : Int) := by omega
        have hge : decide ((n : Int) ≥ (r.length : Int)) = false := decide_eq_false (by omega)
        have n1 : ((i : Int) != (i : Int)) = false := bne_self_eq_false _
        clear hbit HCN hri
        go_wp2
        go_roundw
        case rel => exact ⟨n + 1, i + 1, by go_num, by go_num, by omega, by omega, by omega, HC2n, HBn, Hn, HUn, HCr, HCw⟩
        case measure => simp [intOf]; omega
      ·have hnr : n = r.length := HCN.out.all hn (fun x hx => by have := isO_in (HIS.out x hx); have := HWL.out; omega)
       subst hnr
       have n1 : ((r.length : Int) == (r.length : Int)) = true := beq_self_eq_true _
       have hof0 := heap_Of.calls 0 Hn.out HOK.out
       have e0 : ofO l0 L 0 = ⟨#[]⟩ := by unfold ofO; rw [if_neg (by intro h_; have := isO_in h_; omega)]
       rw [e0] at hof0
       have HOF0 := Aside0.mk hof0
       have e1 : ofO l0 L ((L.length : Int) + 1) = ⟨#[]⟩ := by unfold ofO; rw [if_neg (by intro h_; have := isO_in h_; omega)]
       have HE1 := Aside0.mk e1
       have hw : IntKind.i64.wrap ((L.length : Int) + 1) = (L.length : Int) + 1 := by rw [IntKind.wrap_i64]; omega
       clear hof0 e0 e1 HCN HCr HCw
       go_wp2_with fail
       refine HOF0.out.mono ?_
       rintro e w8 ⟨rfl, hb8⟩
       have HB8 := Aside0.mk (below_step HBn.out hb8); have H8 := Aside0.mk (Hn.out.below hb8); have HU8 := Aside0.mk (HUn.out.below hb8)
       clear hb8 HBn Hn HUn HOF0
       obtain ⟨q0, q1, _, _⟩ := bk2 HU8.out.blk
       have hof := heap_Of.calls ((L.length : Int) + 1) H8.out HOK.out
       rw [HE1.out] at hof
       have HOF := Aside0.mk hof
       clear hof
       go_wp2_with fail
       refine HOF.out.mono ?_
       rintro e w9 ⟨rfl, hb9⟩
       have HB9 := Aside0.mk (below_step HB8.out hb9)
       clear hb9 HB8 H8 HU8 HOF q0 q1
       go_wp2
       go_ret
       exact ⟨rfl, HB9.out⟩
set_option maxRecDepth 100000 in
set_option maxHeartbeats 4000000 in
theorem truantlaw06_HeapExact.calls (k : Nat) (A0 : Option Addr) (c0 : Nat) (l0 : List (S43)) (A1 : Option Addr) (c1 : Nat) (l1 : List (S58)) (A2 : Option Addr) (c2 : Nat) (l2 : List Int) (r : Bool) (w : World) (hr0 : Kd.C k43 w A0 l0.length l0) (hc0 : l0.length ≤ c0) (hr1 : Kd.C k58 w A1 l1.length l1) (hc1 : l1.length ≤ c1) (hr2 : Kd.C (Kd.int .i64) w A2 l2.length l2) (hc2 : l2.length ≤ c2) (h : truantlaw06_HeapExact.f k l0 l1 l2 = some r) :
  Calls Try.prog 8 #[.slice A0 l0.length c0, .slice A1 l1.length c1, .slice A2 l2.length c2] w fun e w' => e = .returned (.bool r) ∧ Below w.heap.size w w' := by
 unfold truantlaw06_HeapExact.f at h
 obtain ⟨gr, hgr, h⟩ := Option.bind_eq_some_iff.mp h
 have HR0 := Aside0.mk hr0; have HC0 := Aside0.mk hc0
 cases gr with
 | true =>
  rw [if_pos rfl] at h
  obtain rfl := Option.some.inj h
  have HGR := Aside0.mk hgr
  clear h hgr hr0 hc0 hr1 hr2 hc2
  go_enter Try.func8, Try.ntmps8
  go_wp2_with fail
  refine (truantlaw06_awake.calls true w rfl).mono ?_
  rintro e w1 ⟨rfl, hb1⟩
  have HB1 := Aside0.mk hb1; clear hb1
  go_wp2_with fail
  refine (truantlaw06_great.calls k A0 c0 l0 true w1 (Kd.C_below HR0.out HB1.out) HC0.out HGR.out).mono ?_
  rintro e w2 ⟨rfl, hd2⟩
  have HB2 := Aside0.mk (below_step HB1.out hd2.below); clear hd2 HB1
  go_wp2
  go_ret
  exact ⟨rfl, HB2.out⟩
 | false =>
  rw [if_neg (by decide)] at h
  by_cases hl : (l1.length : Int) > 80
  ·rw [if_pos hl] at h
   obtain rfl := Option.some.inj h
   have HGR := Aside0.mk hgr
   have hdl : decide ((l1.length : Int) > 80) = true := decide_eq_true hl
   clear h hgr hr0 hc0 hr1 hr2 hc2
   go_enter Try.func8, Try.ntmps8
   go_wp2_with fail
   refine (truantlaw06_awake.calls true w rfl).mono ?_
   rintro e w1 ⟨rfl, hb1⟩
   have HB1 := Aside0.mk hb1; clear hb1
   go_wp2_with fail
   refine (truantlaw06_great.calls k A0 c0 l0 false w1 (Kd.C_below HR0.out HB1.out) HC0.out HGR.out).mono ?_
   rintro e w2 ⟨rfl, hd2⟩
   have HB2 := Aside0.mk (below_step HB1.out hd2.below); clear hd2 HB1
   go_wp2
   go_ret
   exact ⟨rfl, HB2.out⟩
  ·rw [if_neg hl] at h
   by_cases hl2 : (l2.length : Int) > 20
   ·rw [if_pos hl2] at h
    obtain rfl := Option.some.inj h
    have HGR := Aside0.mk hgr
    have hdl : decide ((l1.length : Int) > 80) = false := decide_eq_false hl
    have hdl2 : decide ((l2.length : Int) > 20) = true := decide_eq_true hl2
    clear h hgr hr0 hc0 hr1 hr2 hc2
    go_enter Try.func8, Try.ntmps8
    go_wp2_with fail
    refine (truantlaw06_awake.calls true w rfl).mono ?_
    rintro e w1 ⟨rfl, hb1⟩
    have HB1 := Aside0.mk hb1; clear hb1
    go_wp2_with fail
    refine (truantlaw06_great.calls k A0 c0 l0 false w1 (Kd.C_below HR0.out HB1.out) HC0.out HGR.out).mono ?_
    rintro e w2 ⟨rfl, hd2⟩
    have HB2 := Aside0.mk (below_step HB1.out hd2.below); clear hd2 HB1
    go_wp2
    go_ret
    exact ⟨rfl, HB2.out⟩
   ·rw [if_neg hl2] at h
    obtain ⟨⟨r1, r2⟩, hck, h⟩ := Option.bind_eq_some_iff.mp h
    obtain ⟨q, hrk, h⟩ := Option.bind_eq_some_iff.mp h
    by_cases hok : decB (RX l0 l1 (r1, r2) q) = true
    case neg => rw [if_neg hok] at h; cases h
    rw [if_pos hok] at h
    obtain rfl := Option.some.inj h
    obtain ⟨e, hrp1, hrp2⟩ := decB_ofX hok
    subst e
    by_cases hz : r2 = 0
    ·subst hz
     exact HeapExact.there k A0 c0 l0 A1 c1 l1 A2 c2 l2 r1 w hr0 hc0 hr1 hc1 hr2 hc2 hgr hl hl2 hck hrk hrp1 hrp2
    ·exact HeapExact.nil k A0 c0 l0 A1 c1 l1 A2 c2 l2 r1 r2 w hr0 hc0 hr1 hc1 hr2 hc2 hgr hl hl2 hck hrk (bne_iff_ne.mpr hz)
/-- What reads at type t reads as a value of kind K, of which Q holds. -/
structure Opens {α : Type} (P : Program) (t : TypeId) (K : Kd α) (Q : α → Prop) : Prop where
 out : ∀ {H : Type} {enc : TypeId × Value → H} {W : World} {base : Nat} {sp : Nat → Bool} {held : Bool} {fuel : Nat} {cs : List Value} {x : DataW H × List MemPlace},
  (∀ n ∈ x.1.weights P t, n ≤ reachBytes) → DataW.trod enc P W base sp held fuel t cs = some x → ∃ y, K.K W y cs ∧ Q y
section
variable {P : Program}
theorem opens_string {t : TypeId} (ht : P.underlying t = some .string) : Opens P t Kd.string (fun s => s.size ≤ 140737488351232) := by
 constructor
 intro H enc W base sp held fuel cs x hw h
 obtain ⟨s, rfl, rfl, hs⟩ : ∃ s : ByteArray, cs = [.string s] ∧ x = (.lit (.string s.data.toList), []) ∧ s.size ≤ maxLen := by
  cases fuel with
  | zero => simp [DataW.trod] at h
  | succ n =>
   unfold DataW.trod at h
   rw [ht] at h
   split at h <;> simp_all
 refine ⟨s, rfl, ?_⟩
 have := hw s.data.toList.length (by simp [DataW.weights])
 rw [Array.length_toList] at this
 exact this
theorem opens_int {t : TypeId} {q : IntKind} (ht : P.underlying t = some (.int q)) : Opens P t (Kd.int q) (fun n => (Lit.int q n).wf = true) := by
 constructor
 intro H enc W base sp held fuel cs x hw h
 obtain ⟨n, rfl, hs⟩ : ∃ n : Int, cs = [.int q n] ∧ (Lit.int q n).wf = true := by
  cases fuel with
  | zero => simp [DataW.trod] at h
  | succ n =>
   unfold DataW.trod at h
   rw [ht] at h
   split at h <;> simp_all
 exact ⟨n, rfl, hs⟩
theorem weights_all {H : Type} {e : TypeId} : ∀ {ds : List (DataW H)} {d : DataW H}, d ∈ ds → ∀ n ∈ d.weights P e, n ∈ DataW.weightsAll P e ds
 | d0 :: ds, d, hd, n, hn => by
  simp only [DataW.weightsAll, List.mem_append]
  rcases List.mem_cons.mp hd with rfl | h
  ·exact .inl hn
  ·exact .inr (weights_all h n hn)
theorem choose_list {α : Type} {p : Nat → α → Prop} : ∀ {n : Nat}, (∀ i, i < n → ∃ y, p i y) → ∃ ys : List α, ys.length = n ∧ ∀ i y, ys[i]? = some y → p i y
 | 0, _ => ⟨[], rfl, fun i y h => by simp at h⟩
 | n + 1, h => by
  obtain ⟨ys, hl, hy⟩ := choose_list (n := n) (fun i hi => h i (by omega))
  obtain ⟨y, hp⟩ := h n (by omega)
  refine ⟨ys ++ [y], by simp [hl], fun i z hz => ?_⟩
  by_cases hi : i < n
  ·rw [List.getElem?_append_left (by omega)] at hz
   exact hy i z hz
  ·have := (List.getElem?_eq_some_iff.mp hz).1
   simp at this
   have e : i = n := by omega
   subst e
   rw [List.getElem?_append_right (by omega)] at hz
   simp [hl] at hz
   subst hz
   exact hp
theorem opens_slice {α : Type} {t e : TypeId} {K : Kd α} {Q : α → Prop} (he : Opens P e K Q) (ht : P.underlying t = some (.slice e)) (hc : P.cellsOf e = K.sz) (bytes : Nat) (hb : P.bytesOf e = bytes) :
  Opens P t (Kd.slice e K) (fun l => l.length * bytes ≤ 140737488351232 ∧ ∀ x ∈ l, Q x) := by
 constructor
 intro H enc W base sp held fuel cs x hw h
 rcases Deep.open_slice ht h with ⟨rfl, rfl⟩ | ⟨a, len, cap, m, n, D, Pl, rfl, _, hl, hm, hmm, rfl, hel⟩
 ·exact ⟨[], ⟨none, 0, rfl, Nat.le_refl _, Kd.C_nil K W⟩, by simp, by simp⟩
 ·have hlm : len ≤ m := by rw [hmm]; split <;> omega
  have hw' : ∀ i, i < len → ∀ k ∈ (D i).weights P e, k ≤ reachBytes := fun i hi k hk => hw k (by
   simp only [DataW.weights, ht, List.mem_cons, List.mem_append]
   exact .inr (.inl (weights_all (List.mem_map.mpr ⟨i, by simpa using hi, rfl⟩) k hk)))
  obtain ⟨ys, hys, hY⟩ := choose_list (n := len) (p := fun i y => (∃ c, c.length = K.sz ∧ K.K W y c ∧ ∀ j u, c[j]? = some u → W.cell? (a.add (i * K.sz + j)) = some u) ∧ Q y) (fun i hi => by
   obtain ⟨c, h1, h2⟩ := hel i (by omega)
   obtain ⟨y, hy, hq⟩ := he.out (hw' i hi) h2
   obtain ⟨_, h3, h4⟩ := World.cells?_some h1
   rw [hc] at h3 h4
   refine ⟨y, ⟨c, h3, hy, fun j u hu => ?_⟩, hq⟩
   have hj : j < K.sz := by
    have := (List.getElem?_eq_some_iff.mp hu).1
    omega
   have h5 := h4 j hj
   rw [Addr.add_add] at h5
   rw [h5, hu])
  have hlen : len ≤ maxLen := by omega
  refine ⟨ys, ⟨some a, cap, by rw [hys], by omega, rfl, by rw [hys]; unfold maxLen at hlen; omega, fun _ => ⟨a, rfl, fun j p hj => (hY j p hj).1⟩⟩, ?_, ?_⟩
  ·have := hw ((((List.range len).map D).length + ((List.range (m - len)).map fun j => D (len + j)).length) * P.bytesOf e) (by simp [DataW.weights, ht])
   rw [hb] at this
   simp only [List.length_map, List.length_range] at this
   have h2 : len * bytes ≤ (len + (m - len)) * bytes := Nat.mul_le_mul_right _ (by omega)
   rw [hys]
   unfold reachBytes at this
   omega
  ·intro x hx
   obtain ⟨i, hi, rfl⟩ := List.mem_iff_getElem.mp hx
   exact (hY i _ (List.getElem?_eq_getElem hi)).2
/-- The fields from one on. -/
structure OpensF {α : Type} (P : Program) (fs : List Field) (off : Nat) (K : Kd α) (Q : α → Prop) : Prop where
 out : ∀ {H : Type} {enc : TypeId × Value → H} {W : World} {base : Nat} {sp : Nat → Bool} {held : Bool} {fuel : Nat} {cs : List Value} {xs : List (DataW H × List MemPlace)},
  cs.length = off + K.sz → (∀ n ∈ DataW.weightsEach P (fs.map (·.type)) (xs.map (·.1)), n ≤ reachBytes) → (fs.mapM fun f => DataW.trod enc P W base sp held fuel f.type ((cs.drop f.offset).take (P.cellsOf f.type))) = some xs → ∃ y, K.K W y (cs.drop off) ∧ Q y
theorem opensF_last {α : Type} {f : Field} {off t : Nat} {K : Kd α} {Q : α → Prop} (h : Opens P t K Q) (h0 : f.type = t) (hc : P.cellsOf t = K.sz) (ho : f.offset = off) : OpensF P [f] off K Q := by
 constructor
 intro H enc W base sp held fuel cs xs hl hw hm
 subst h0
 simp only [List.mapM_cons, List.mapM_nil, Option.pure_def, Option.bind_eq_bind, Option.bind_some] at hm
 obtain ⟨x, hx, hm⟩ := Option.bind_eq_some_iff.mp hm
 obtain rfl := Option.some.inj hm
 rw [hc, ho, List.take_of_length_le (by rw [List.length_drop]; omega)] at hx
 exact h.out (fun n hn => hw n (by simp [DataW.weightsEach, hn])) hx
theorem opensF_cons {α β : Type} {f : Field} {fs : List Field} {off t : Nat} {K : Kd α} {K1 : Kd β} {Q : α → Prop} {Q1 : β → Prop} (h : Opens P t K Q) (h0 : f.type = t) (hc : P.cellsOf t = K.sz) (ho : f.offset = off) (h1 : OpensF P fs (off + K.sz) K1 Q1) :
  OpensF P (f :: fs) off (Kd.pair K K1) (fun p => Q p.1 ∧ Q1 p.2) := by
 constructor
 intro H enc W base sp held fuel cs xs hl hw hm
 subst h0
 have hl : cs.length = off + (K.sz + K1.sz) := hl
 rw [List.mapM_cons] at hm
 simp only [Option.pure_def, Option.bind_eq_bind] at hm
 obtain ⟨x, hx, hm⟩ := Option.bind_eq_some_iff.mp hm
 obtain ⟨xs', hxs, hm⟩ := Option.bind_eq_some_iff.mp hm
 obtain rfl := Option.some.inj hm
 rw [hc, ho] at hx
 obtain ⟨y, hy, hq⟩ := h.out (fun n hn => hw n (by simp only [List.map_cons, DataW.weightsEach, List.mem_append]; exact .inl hn)) hx
 obtain ⟨z, hz, hq1⟩ := h1.out (by omega) (fun n hn => hw n (by simp only [List.map_cons, DataW.weightsEach, List.mem_append]; exact .inr hn)) hxs
 refine ⟨(y, z), ⟨(cs.drop off).take K.sz, cs.drop (off + K.sz), ?_, hy, hz⟩, hq, hq1⟩
 rw [← List.drop_drop, List.take_append_drop]
theorem opens_struct {α β : Type} {t : TypeId} {fs : Array Field} {K : Kd α} {Q : α → Prop} (ht : P.underlying t = some (.struct fs)) (h : OpensF P fs.toList 0 K Q) (hc : P.cellsOf t = K.sz) (g : β → α) (g' : α → β) (hg : ∀ y, g (g' y) = y) : Opens P t (Kd.iso K g) (fun x => Q (g x)) := by
 constructor
 intro H enc W base sp held fuel cs x hw hm
 cases fuel with
 | zero => simp [DataW.trod] at hm
 | succ n =>
  unfold DataW.trod at hm
  rw [ht] at hm
  simp only at hm
  split at hm
  ·rename_i hl
   obtain ⟨xs, hxs, rfl⟩ := Option.map_eq_some_iff.mp hm
   obtain ⟨y, hy, hq⟩ := h.out (cs := cs) (xs := xs) (by rw [hl, hc]; omega) (fun n hn => hw n (by simp only [DataW.weights, ht]; exact hn)) hxs
   exact ⟨g' y, by show K.K W (g (g' y)) cs; rw [hg]; simpa using hy, by show Q (g (g' y)); rw [hg]; exact hq⟩
  ·cases hm
theorem opens_struct' {α β : Type} {t : TypeId} {fs : Array Field} {K : Kd α} {Q : α → Prop} {k : Kd β} {WF : β → Prop} (g' : α → β) (g : β → α) (ht : P.underlying t = some (.struct fs)) (h : OpensF P fs.toList 0 K Q) (hc : P.cellsOf t = K.sz) (hk : k = Kd.iso K g) (hg : ∀ y, g (g' y) = y) (hQ : ∀ x, Q (g x) → WF x) : Opens P t k WF := by
 subst hk
 constructor
 intro H enc W base sp held fuel cs x hw hm
 obtain ⟨y, h1, h2⟩ := (opens_struct ht h hc g g' hg).out hw hm
 exact ⟨y, h1, hQ y h2⟩
end
def WF48 (x : S48) : Prop := ((fun s : ByteArray => s.size ≤ 140737488351232) x.f0) ∧ ((fun s : ByteArray => s.size ≤ 140737488351232) x.f1)
theorem opens48 : Opens Try.prog 48 k48 WF48 :=
 opens_struct' (fun p : (ByteArray) × (ByteArray) => (⟨p.1, p.2⟩ : S48)) (fun x : S48 => (x.f0, x.f1)) Try.underlying48 (opensF_cons (opens_string Try.underlying9) rfl (by kernel_rfl) rfl (opensF_last (opens_string Try.underlying9) rfl (by kernel_rfl) rfl)) (by kernel_rfl) rfl (fun _ => rfl) (fun _ h => h)
def WF43 (x : S43) : Prop := ((fun s : ByteArray => s.size ≤ 140737488351232) x.f0) ∧ ((fun l : List (S48) => l.length * 32 ≤ 140737488351232 ∧ ∀ x ∈ l, WF48 x) x.f1)
theorem opens43 : Opens Try.prog 43 k43 WF43 :=
 opens_struct' (fun p : (ByteArray) × (List (S48)) => (⟨p.1, p.2⟩ : S43)) (fun x : S43 => (x.f0, x.f1)) Try.underlying43 (opensF_cons (opens_string Try.underlying9) rfl (by kernel_rfl) rfl (opensF_last (opens_slice opens48 Try.underlying41 (by kernel_rfl) 32 (by kernel_rfl)) rfl (by kernel_rfl) rfl)) (by kernel_rfl) rfl (fun _ => rfl) (fun _ h => h)
def WF58 (x : S58) : Prop := ((fun n : Int => (Lit.int .i64 n).wf = true) x.f0) ∧ ((fun s : ByteArray => s.size ≤ 140737488351232) x.f1) ∧ ((fun n : Int => (Lit.int .i64 n).wf = true) x.f2) ∧ ((fun n : Int => (Lit.int .i64 n).wf = true) x.f3) ∧ ((fun n : Int => (Lit.int .i64 n).wf = true) x.f4)
theorem opens58 : Opens Try.prog 58 k58 WF58 :=
 opens_struct' (fun p : (Int) × (ByteArray) × (Int) × (Int) × (Int) => (⟨p.1, p.2.1, p.2.2.1, p.2.2.2.1, p.2.2.2.2⟩ : S58)) (fun x : S58 => (x.f0, x.f1, x.f2, x.f3, x.f4)) Try.underlying58 (opensF_cons (opens_int Try.underlying3) rfl (by kernel_rfl) rfl (opensF_cons (opens_string Try.underlying9) rfl (by kernel_rfl) rfl (opensF_cons (opens_int Try.underlying3) rfl (by kernel_rfl) rfl (opensF_cons (opens_int Try.underlying3) rfl (by kernel_rfl) rfl (opensF_last (opens_int Try.underlying3) rfl (by kernel_rfl) rfl))))) (by kernel_rfl) rfl (fun _ => rfl) (fun _ h => h)
noncomputable def HeapExact.Pure : Prop := ∀ (l0 : List (S43)) (l1 : List (S58)) (l2 : List Int), (fun l : List (S43) => l.length * 40 ≤ 140737488351232 ∧ ∀ x ∈ l, WF43 x) l0 → (fun l : List (S58) => l.length * 48 ≤ 140737488351232 ∧ ∀ x ∈ l, WF58 x) l1 → (fun l : List Int => l.length * 8 ≤ 140737488351232 ∧ ∀ x ∈ l, (fun n : Int => (Lit.int .i64 n).wf = true) x) l2 → ∃ k, truantlaw06_HeapExact.f k l0 l1 l2 = some true
def isS (l : List S43) (t : ByteArray) : Bool := t.toList == [105, 110, 116] || (t.toList == [98, 111, 111, 108] || (starB t && decide (0 ≤ findR (nameIs (rest t)) l)))
theorem is_ev (l : List S43) (t : ByteArray) : Ev (fun k => kind_Is.f k l t) (isS l t) := by
 have jt : Ev (fun k => kind_Is.j0 k l t true) true := Ev.step (f := fun _ => some true) (fun k => rfl) (Ev.now _)
 unfold isS
 by_cases h1 : t.toList = [105, 110, 116]
 ·exact Ev.pos h1 (Ev.eq jt (by rw [h1]; rfl))
 ·refine Ev.neg h1 ?_
  rw [beq_eq_false_iff_ne.mpr h1, Bool.false_or]
  by_cases h2 : t.toList = [98, 111, 111, 108]
  ·rw [beq_iff_eq.mpr h2]; exact Ev.eq jt (by simp)
  ·rw [beq_eq_false_iff_ne.mpr h2, Bool.false_or]
   refine Ev.step (f := fun k => (strings_CutPrefix.f t (⟨#[42]⟩ : ByteArray)).bind fun bt118 => (if bt118.2 = true then ((kind_Find.f l bt118.1).bind fun bt120 => (some bt120.2)) else (some false))) (fun k => rfl) ?_
   rw [cutPrefix_one]
   cases hs : starB t with
   | false => exact Ev.now _
   | true =>
    refine Ev.eq (Ev.now _) ?_
    unfold placeOf
    by_cases h : findR (nameIs (rest t)) l < 0
    ·rw [if_pos rfl, if_pos h]
     simp; omega
    ·rw [if_pos rfl, if_neg h]
     simp; omega
theorem ris_ev (l : List S43) (t : ByteArray) (hm : l.length ≤ 9223372036854775807) : Ev (fun k => truantref03_Is.f k l t) (isS l t) := by
 unfold isS
 by_cases h1 : t.toList = [105, 110, 116]
 ·exact Ev.pos h1 (Ev.eq (Ev.now _) (by rw [h1]; rfl))
 ·refine Ev.neg h1 ?_
  rw [beq_eq_false_iff_ne.mpr h1, Bool.false_or]
  by_cases h2 : t.toList = [98, 111, 111, 108]
  ·refine Ev.pos h2 ?_
   rw [beq_iff_eq.mpr h2]; exact Ev.eq (Ev.now _) (by simp)
  ·refine Ev.neg h2 ?_
   rw [beq_eq_false_iff_ne.mpr h2, Bool.false_or]
   unfold starB
   by_cases h3 : 0 < t.size
   ·refine Ev.pos (by omega) (Ev.pos (by omega) ?_)
    by_cases h4 : bt t 0 = 42
    ·refine Ev.pos h4 (Ev.pos (by omega) (Ev.eq (Ev.bind (rfind_ev l (rest t) hm) (Ev.now _)) ?_))
     simp [h3, h4]
    ·refine Ev.neg h4 (Ev.eq (Ev.now _) ?_)
     rw [beq_eq_false_iff_ne.mpr h4]; simp
   ·refine Ev.neg (by omega) (Ev.eq (Ev.now _) ?_)
    simp [h3]
def fieldS (l : List S43) (ahead : List S48) (a b : ByteArray) : Int := if wordB a = true then (if 0 ≤ findR (fnameIs a) ahead then 6 else if isS l b = true then 0 else 7) else 1
theorem field_ev (l : List S43) (ahead : List S48) (a b : ByteArray) (ha : a.size ≤ 9223372036854775807) : Ev (fun k => kind_field.f k l ahead a b) (fieldS l ahead a b) := by
 refine Ev.bind (isWord_ev a ha) ?_
 unfold fieldS
 cases wordB a with
 | false => exact Ev.neg (by decide) (Ev.now _)
 | true =>
  refine Ev.pos rfl ?_
  rw [if_pos rfl]
  by_cases h : 0 ≤ findR (fnameIs a) ahead
  ·rw [if_pos h]; exact Ev.pos h (Ev.now _)
  ·rw [if_neg h]
   refine Ev.neg h (Ev.bind (is_ev l b) ?_)
   cases isS l b with
   | true => exact Ev.pos rfl (Ev.now _)
   | false => exact Ev.neg (by decide) (Ev.now _)
def fieldsD (l : List S43) (fs : List S48) : Nat → Nat → Int
 | 0, _ => 0
 | d + 1, j => if fieldS l (fs.take j) (fs.getD j z48).f0 (fs.getD j z48).f1 = 0 then fieldsD l fs d (j + 1) else fieldS l (fs.take j) (fs.getD j z48).f0 (fs.getD j z48).f1
def oneS (l : List S43) (i : Nat) : Int :=
 if wordB (l.getD i z43).f0 = true then (if findR (nameIs (l.getD i z43).f0) l < (i : Int) then 6 else if (l.getD i z43).f1.length > 8 then 4 else fieldsD l (l.getD i z43).f1 (l.getD i z43).f1.length 0) else 1
def checkD (l : List S43) : Nat → Nat → Int × Int
 | 0, _ => (0, 0)
 | d + 1, i => if oneS l i = 0 then checkD l d (i + 1) else ((i : Int), oneS l i)
def checkS (l : List S43) : Int × Int := if l.length > 12 then (0, 4) else checkD l l.length 0
/-- The sizes that came in. -/
structure Sz (l : List S43) : Prop where
 len : l.length ≤ 4398046511104
 fields : ∀ j : Nat, j < l.length → (l.getD j z43).f1.length ≤ 4398046511104
 names : ∀ j : Nat, j < l.length → (l.getD j z43).f0.size ≤ 140737488351232
 fnames : ∀ j q : Nat, j < l.length → q < (l.getD j z43).f1.length → ((l.getD j z43).f1.getD q z48).f0.size ≤ 140737488351232
 types : ∀ j q : Nat, j < l.length → q < (l.getD j z43).f1.length → ((l.getD j z43).f1.getD q z48).f1.size ≤ 140737488351232
theorem one_ev (l : List S43) (hl : Sz l) (i : Nat) (hi : i < l.length) : Ev (fun k => kind_one.f k l (i : Int)) (oneS l i) := by
 obtain ⟨x, hx⟩ : ∃ x, x = l.getD i z43 := ⟨_, rfl⟩
 have rx : rd_T43 l (i : Int) = x := by rw [hx]; rfl
 have hn := hl.names i hi
 have hf := hl.fields i hi
 have hfn := fun q => hl.fnames i q hi
 rw [← hx] at hn hf hfn
 refine Ev.pos (by omega) (Ev.pos (by omega) ?_)
 rw [rx]
 refine Ev.bind (isWord_ev x.f0 (by omega)) ?_
 unfold oneS
 rw [← hx]
 cases wordB x.f0 with
 | false => exact Ev.neg (by decide) (Ev.now _)
 | true =>
  refine Ev.pos rfl (Ev.one (a := kind_Find.f l x.f0) (b := placeOf (findR (nameIs x.f0) l)) rfl ?_)
  rw [if_pos rfl]
  have hp : 0 ≤ findR (nameIs x.f0) l ∧ (placeOf (findR (nameIs x.f0) l)).1 = findR (nameIs x.f0) l := by
   have hlt : l.findIdx (nameIs x.f0) < l.length := List.findIdx_lt_length_of_exists ⟨l[i], List.getElem_mem hi, by rw [← getD_at l z43 hi, ← hx]; unfold nameIs; simp⟩
   have h0 : 0 ≤ findR (nameIs x.f0) l := by unfold findR; rw [if_pos hlt]; omega
   exact ⟨h0, by unfold placeOf; rw [if_neg (by omega)]⟩
  rw [hp.2]
  by_cases h1 : findR (nameIs x.f0) l < (i : Int)
  ·rw [if_pos h1]; exact Ev.pos h1 (Ev.now _)
  ·rw [if_neg h1]
   refine Ev.neg h1 ?_
   by_cases h2 : x.f1.length > 8
   ·rw [if_pos h2]; exact Ev.pos (by omega) (Ev.now _)
   ·rw [if_neg h2]
    refine Ev.neg (by omega) ?_
    have key : ∀ (d j : Nat), j ≤ x.f1.length → x.f1.length - j = d → Ev (fun k => kind_one.l0 k l x.f1 (x.f1.length : Int) (j : Int) x.f0 x.f1) (fieldsD l x.f1 d j) := by
     intro d
     induction d with
     | zero => exact fun j h0 hd => Ev.step (fun k => rfl) (Ev.neg (by omega) (Ev.now _))
     | succ d ih =>
      intro j h0 hd
      refine Ev.step (fun k => rfl) (Ev.pos (by omega) (Ev.pos (by omega) (Ev.pos (by omega) (Ev.pos (by omega) ?_))))
      have rf : rd_T48 x.f1 (j : Int) = x.f1.getD j z48 := rfl
      rw [rf, Int.toNat_natCast]
      refine Ev.bind (field_ev l _ _ _ (by have := hfn j (by omega); omega)) ?_
      unfold fieldsD
      by_cases h3 : fieldS l (x.f1.take j) (x.f1.getD j z48).f0 (x.f1.getD j z48).f1 = 0
      ·rw [if_pos h3, wrap_succ (by omega) (by omega)]
       exact Ev.pos h3 (ih (j + 1) (by omega) (by omega))
      ·rw [if_neg h3]
       exact Ev.neg h3 (Ev.now _)
    exact key x.f1.length 0 (by omega) (by omega)
theorem check_ev (l : List S43) (hl : Sz l) : Ev (fun k => kind_Check.f k l) (checkS l) := by
 unfold checkS
 by_cases h : l.length > 12
 ·rw [if_pos h]; exact Ev.pos (by omega) (Ev.now _)
 ·rw [if_neg h]
  refine Ev.neg (by omega) ?_
  have key : ∀ (d i : Nat), i ≤ l.length → l.length - i = d → Ev (fun k => kind_Check.l0 k l (l.length : Int) (i : Int)) (checkD l d i) := by
   intro d
   induction d with
   | zero => exact fun i h0 hd => Ev.step (fun k => rfl) (Ev.neg (by omega) (Ev.now _))
   | succ d ih =>
    intro i h0 hd
    refine Ev.step (fun k => rfl) (Ev.pos (by omega) (Ev.bind (one_ev l hl i (by omega)) ?_))
    unfold checkD
    by_cases h3 : oneS l i = 0
    ·rw [if_pos h3, wrap_succ (by omega) (by omega)]
     exact Ev.pos h3 (ih (i + 1) (by omega) (by omega))
    ·rw [if_neg h3]
     exact Ev.neg h3 (Ev.now _)
  exact key l.length 0 (by omega) (by omega)
theorem findR_take_iff {α : Type} {p : α → Bool} {l : List α} {z : α} {k : Nat} (hk : k ≤ l.length) : 0 ≤ findR p (l.take k) ↔ ∃ j : Nat, j < k ∧ p (l.getD j z) = true := by
 unfold findR
 have hl : (l.take k).length = k := by rw [List.length_take]; omega
 constructor
 ·intro h
  split at h
  ·rename_i hlt
   have := List.findIdx_getElem (w := hlt)
   rw [List.getElem_take] at this
   exact ⟨(l.take k).findIdx p, by omega, by rw [getD_at l z (by omega)]; exact this⟩
  ·omega
 ·rintro ⟨j, hj, hp⟩
  have hlt : (l.take k).findIdx p < (l.take k).length := List.findIdx_lt_length_of_exists ⟨(l.take k)[j]'(by omega), List.getElem_mem _, by rw [List.getElem_take, ← getD_at l z (by omega)]; exact hp⟩
  rw [if_pos hlt]; omega
theorem rcheck_ev (l : List S43) (hl : Sz l) : Ev (fun k => truantref03_Check.f k l) (checkS l) := by
 unfold checkS
 have hll := hl.len
 by_cases h : l.length > 12
 ·rw [if_pos h]; exact Ev.pos (by omega) (Ev.now _)
 ·rw [if_neg h]
  refine Ev.neg (by omega) ?_
  have key : ∀ (d i : Nat), i ≤ l.length → l.length - i = d → Ev (fun k => truantref03_Check.l0 k l (i : Int)) (checkD l d i) := by
   intro d
   induction d with
   | zero => exact fun i h0 hd => Ev.step (fun k => rfl) (Ev.neg (by omega) (Ev.now _))
   | succ d ih =>
    intro i h0 hd
    obtain ⟨x, hx⟩ : ∃ x, x = l.getD i z43 := ⟨_, rfl⟩
    have rx : rd_T43 l (i : Int) = x := by rw [hx]; rfl
    have hf := hl.fields i (by omega)
    rw [← hx] at hf
    refine Ev.step (fun k => rfl) (Ev.pos (by omega) (Ev.pos (by omega) ?_))
    rw [rx]
    refine Ev.bind (rword_ev x.f0) ?_
    unfold checkD oneS
    rw [← hx]
    cases wordB x.f0 with
    | false => exact Ev.neg (by decide) (Ev.now _)
    | true =>
     refine Ev.pos rfl (Ev.bind (rfind_ev l x.f0 (by omega)) ?_)
     rw [if_pos rfl]
     by_cases h1 : findR (nameIs x.f0) l < (i : Int)
     ·rw [if_pos h1]; exact Ev.pos h1 (Ev.now _)
     ·rw [if_neg h1]
      refine Ev.neg h1 ?_
      by_cases h2 : x.f1.length > 8
      ·rw [if_pos h2]; exact Ev.pos (by omega) (Ev.now _)
      ·rw [if_neg h2]
       refine Ev.neg (by omega) ?_
       have hnext := ih (i + 1) (by omega) (by omega)
       have fk : ∀ (d2 j : Nat), j ≤ x.f1.length → x.f1.length - j = d2 → Ev (fun k => truantref03_Check.l1 k l (i : Int) (j : Int) x.f0 x.f1) (if fieldsD l x.f1 d2 j = 0 then checkD l d (i + 1) else ((i : Int), fieldsD l x.f1 d2 j)) := by
        intro d2
        induction d2 with
        | zero =>
         intro j hj hd2
         refine Ev.step (fun k => rfl) (Ev.neg (by omega) ?_)
         rw [wrap_succ (by omega) (by omega)]
         exact hnext
        | succ d2 ih2 =>
         intro j hj hd2
         have rf : rd_T48 x.f1 (j : Int) = x.f1.getD j z48 := rfl
         refine Ev.step (fun k => rfl) (Ev.pos (by omega) (Ev.pos (by omega) ?_))
         rw [rf]
         refine Ev.bind (rword_ev _) ?_
         unfold fieldsD fieldS
         cases wordB (x.f1.getD j z48).f0 with
         | false => exact Ev.neg (by decide) (Ev.eq (Ev.now _) (by simp))
         | true =>
          refine Ev.pos rfl ?_
          rw [if_pos rfl]
          have ek : ∀ (d3 m : Nat), m ≤ j → j - m = d3 → (∀ q : Nat, q < m → fnameIs (x.f1.getD j z48).f0 (x.f1.getD q z48) = false) → Ev (fun k => truantref03_Check.l2 k l (i : Int) (j : Int) (m : Int) x.f0 x.f1)
            (if (if 0 ≤ findR (fnameIs (x.f1.getD j z48).f0) (x.f1.take j) then (6 : Int) else if isS l (x.f1.getD j z48).f1 = true then 0 else 7) = 0 then (if fieldsD l x.f1 d2 (j + 1) = 0 then checkD l d (i + 1) else ((i : Int), fieldsD l x.f1 d2 (j + 1))) else ((i : Int), (if 0 ≤ findR (fnameIs (x.f1.getD j z48).f0) (x.f1.take j) then (6 : Int) else if isS l (x.f1.getD j z48).f1 = true then 0 else 7))) := by
           intro d3
           induction d3 with
           | zero =>
            intro m hm hd3 hall
            have hno : ¬ 0 ≤ findR (fnameIs (x.f1.getD j z48).f0) (x.f1.take j) := fun hh => by
             obtain ⟨q, hq, hp⟩ := (findR_take_iff (z := z48) (by omega)).mp hh
             rw [hall q (by omega)] at hp; cases hp
            rw [if_neg hno]
            refine Ev.step (fun k => rfl) (Ev.neg (by omega) (Ev.pos (by omega) (Ev.pos (by omega) ?_)))
            rw [rf]
            refine Ev.bind (ris_ev l _ (by omega)) ?_
            cases isS l (x.f1.getD j z48).f1 with
            | true =>
             refine Ev.pos rfl ?_
             rw [wrap_succ (by omega) (by omega)]
             exact ih2 (j + 1) (by omega) (by omega)
            | false => exact Ev.neg (by decide) (Ev.now _)
           | succ d3 ih3 =>
            intro m hm hd3 hall
            have rm : rd_T48 x.f1 (m : Int) = x.f1.getD m z48 := rfl
            refine Ev.step (fun k => rfl) (Ev.pos (by omega) (Ev.pos (by omega) (Ev.pos (by omega) (Ev.pos (by omega) (Ev.pos (by omega) ?_)))))
            rw [rf, rm]
            by_cases he : fnameIs (x.f1.getD j z48).f0 (x.f1.getD m z48) = true
            ·have hyes : 0 ≤ findR (fnameIs (x.f1.getD j z48).f0) (x.f1.take j) := (findR_take_iff (z := z48) (by omega)).mpr ⟨m, by omega, he⟩
             rw [if_pos hyes]
             exact Ev.pos (beq_iff_eq.mp he) (Ev.now _)
            ·refine Ev.neg (fun q => he (beq_iff_eq.mpr q)) ?_
             rw [wrap_succ (by omega) (by omega)]
             exact ih3 (m + 1) (by omega) (by omega) (all_succ (P := fun q => fnameIs (x.f1.getD j z48).f0 (x.f1.getD q z48) = false) hall (by simpa using he))
          have e0 := ek j 0 (by omega) (by omega) (fun q hq => absurd hq (by omega))
          refine Ev.eq e0 ?_
          generalize (if 0 ≤ findR (fnameIs (x.f1.getD j z48).f0) (x.f1.take j) then (6 : Int) else if isS l (x.f1.getD j z48).f1 = true then 0 else 7) = F
          by_cases hF : F = 0
          ·rw [if_pos hF, if_pos hF]
          ·rw [if_neg hF, if_neg hF, if_neg hF]
       exact fk x.f1.length 0 (by omega) (by omega)
  exact key l.length 0 (by omega) (by omega)
theorem great_l (l : List S43) (hl : l.length ≤ 16) (d : Nat) : ∀ i : Nat, i ≤ l.length → l.length - i = d → (∀ j : Nat, j < i → (l.getD j z43).f1.length ≤ 12) →
  ∃ b, Ev (fun k => truantlaw06_great.l0 k l (i : Int)) b ∧ (b = false → ∀ j : Nat, j < l.length → (l.getD j z43).f1.length ≤ 12) := by
 induction d with
 | zero =>
  intro i h0 hd h
  exact ⟨false, Ev.step (fun k => rfl) (Ev.neg (by omega) (Ev.now _)), fun _ j hj => h j (by omega)⟩
 | succ d ih =>
  intro i h0 hd h
  by_cases hg : (((rd_T43 l (i : Int)).f1).length : Int) > 12
  ·exact ⟨true, Ev.step (fun k => rfl) (Ev.pos (by omega) (Ev.pos (by omega) (Ev.pos hg (Ev.now _)))), fun e => by cases e⟩
  ·obtain ⟨b, hb, hb2⟩ := ih (i + 1) (by omega) (by omega) (all_succ h (by
    have e : rd_T43 l (i : Int) = l.getD i z43 := by unfold rd_T43; rw [Int.toNat_natCast]
    rw [← e]; omega))
   refine ⟨b, Ev.step (fun k => rfl) (Ev.pos (by omega) (Ev.pos (by omega) (Ev.neg hg ?_))), hb2⟩
   rw [wrap_succ (by omega) (by omega)]
   exact hb
theorem great_ev (l : List S43) : ∃ b, Ev (fun k => truantlaw06_great.f k l) b ∧ (b = false → l.length ≤ 16 ∧ ∀ x ∈ l, x.f1.length ≤ 12) := by
 unfold truantlaw06_great.f
 by_cases h : (l.length : Int) > 16
 ·exact ⟨true, Ev.pos h (Ev.now _), fun e => by cases e⟩
 ·obtain ⟨b, hb, hb2⟩ := great_l l (by omega) l.length 0 (by omega) (by omega) (fun j hj => by omega)
  refine ⟨b, Ev.neg h hb, fun e => ⟨by omega, fun x hx => ?_⟩⟩
  obtain ⟨j, hj, rfl⟩ := List.mem_iff_getElem.mp hx
  have := hb2 e j hj
  rwa [getD_at _ _ hj] at this
theorem sz_of {l : List S43} (h : l.length * 40 ≤ 140737488351232 ∧ ∀ x ∈ l, WF43 x) : Sz l where
 len := by omega
 fields := fun j hj => by
  have h1 := (h.2 _ (List.getElem_mem hj)).2.1
  rw [getD_at _ _ hj]
  have h2 : (l[j]).f1.length * 32 ≤ 140737488351232 := h1
  omega
 names := fun j hj => by
  rw [getD_at _ _ hj]
  exact (h.2 _ (List.getElem_mem hj)).1
 fnames := fun j q hj hq => by
  rw [getD_at _ _ hj] at hq ⊢
  rw [getD_at _ _ hq]
  exact ((h.2 _ (List.getElem_mem hj)).2.2 _ (List.getElem_mem hq)).1
 types := fun j q hj hq => by
  rw [getD_at _ _ hj] at hq ⊢
  rw [getD_at _ _ hq]
  exact ((h.2 _ (List.getElem_mem hj)).2.2 _ (List.getElem_mem hq)).2
theorem rs_ofX {l : List S43} (hz : Sz l) (h1 : l.length ≤ 16) (h2 : ∀ x ∈ l, x.f1.length ≤ 12) : RS l := by
 refine ⟨by omega, fun x hx => by have := h2 x hx; omega, fun x hx => ?_⟩
 obtain ⟨j, hj, rfl⟩ := List.mem_iff_getElem.mp hx
 obtain ⟨k, hk⟩ := (links_ev (l[j]).f0 (l[j]).f1 (by have := h2 _ hx; omega) (fun q hq => by
  have := hz.types j q hj (by rw [getD_at _ _ hj]; exact hq)
  rw [getD_at _ _ hj] at this
  omega)).rounds
 exact ⟨k, hk⟩
theorem HeapExact_pure : HeapExact.Pure := by
 intro l0 l1 l2 h0 h1 _
 obtain ⟨b, hb, hb2⟩ := great_ev l0
 have hz := sz_of h0
 have hc := check_ev l0 hz
 have hr := rcheck_ev l0 hz
 have h : Ev (fun k => truantlaw06_HeapExact.f k l0 l1 l2) true := by
  unfold truantlaw06_HeapExact.f
  refine Ev.bind hb ?_
  cases b with
  | true => exact Ev.pos rfl (Ev.now _)
  | false =>
   obtain ⟨q1, q2⟩ := hb2 rfl
   refine Ev.neg (by decide) ?_
   by_cases hl : (l1.length : Int) > 80
   ·exact Ev.pos hl (Ev.now _)
   ·refine Ev.neg hl ?_
    by_cases hl2 : (l2.length : Int) > 20
    ·exact Ev.pos hl2 (Ev.now _)
    ·refine Ev.neg hl2 (Ev.bind hc (Ev.bind hr (Ev.pos (decB_true ⟨rfl, rs_ofX hz q1 q2, fun x hx => ?_⟩) (Ev.now _))))
     have hw := (h1.2 x hx).2.2.2.2
     have hw : (Lit.int .i64 x.f4).wf = true := hw
     simp [Lit.wf] at hw
     exact hw
 exact h.rounds
end Go.Proofs.Ytonmlncejikbiaa.Q
