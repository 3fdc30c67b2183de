/- What the row of NodeExact rests on, part 2: contracts of the functions that it reaches, and the plain law. -/
import Derived.Test.YtgidnkmlnccaiaaDoorJNodeExact1
/- A row of nodes in memory, in the sort's words and in append's: plain. -/
namespace Go.Proofs.YtgidnkmlnccaiaaDoor.Q
open Go.RowKit Go.Proofs.YtgidnkmlnccaiaaDoorW.PrintWords Go.Proofs.YtgidnkmlnccaiaaDoorW.PrintLast Go.Proofs.YtgidnkmlnccaiaaDoorW.PrintMore
set_option linter.unusedVariables false
set_option linter.unusedSimpArgs false
open Go.Sort
noncomputable instance : Inhabited Nd := ⟨z24⟩
theorem ndCs_get : ∀ (l : List Nd) (t : Nat), t < l.length * 3 → (ndCs l)[t]? = some ((ndC (l[t / 3]!))[t % 3]!)
 | [], t, h => by simp at h
 | x :: l, t, h => by
  have e : ndCs (x :: l) = ndC x ++ ndCs l := by unfold ndCs; rw [List.flatMap_cons]
  rw [e]
  rcases Nat.lt_or_ge t 3 with h3 | h3
  ·have h0 : t / 3 = 0 := by omega
   have h1 : t % 3 = t := by omega
   rw [h0, h1, List.getElem?_append_left (by simpa [ndC] using h3)]
   have : t = 0 ∨ t = 1 ∨ t = 2 := by omega
   rcases this with rfl | rfl | rfl <;> simp [ndC]
  ·obtain ⟨u, rfl⟩ : ∃ u, t = u + 3 := ⟨t - 3, by omega⟩
   have h0 : (u + 3) / 3 = u / 3 + 1 := by omega
   have h1 : (u + 3) % 3 = u % 3 := by omega
   rw [List.getElem?_append_right (by simp [ndC]), h0, h1]
   have hl : (ndC x).length = 3 := rfl
   rw [hl, Nat.add_sub_cancel, ndCs_get l u (by rw [List.length_cons] at h; omega)]
   simp
theorem flat_eq (d : Array Nd) : flatK ndC 3 d = (ndCs d.toList).toArray := by
 have hsz : (ndCs d.toList).toArray.size = d.size * 3 := by rw [List.size_toArray, ndCs_len, Array.length_toList]
 refine ext_get! (by rw [size_flatK, hsz]) fun t ht0 => ?_
 have ht : t < d.size * 3 := by rw [size_flatK] at ht0; exact ht0
 have h2 : t < (ndCs d.toList).length := by rw [ndCs_len, Array.length_toList]; exact ht
 have e2 := ndCs_get d.toList t (by rw [Array.length_toList]; exact ht)
 rw [List.getElem?_eq_getElem h2] at e2
 injection e2 with e2
 rw [get_flatK ndC 3 d t ht, getElem!_pos _ t (by rw [hsz]; exact ht), List.getElem_toArray, e2]
 have hq : t / 3 < d.size := by omega
 rw [getElem!_pos d _ hq, getElem!_pos d.toList _ (by rw [Array.length_toList]; exact hq), Array.getElem_toList]
/-- Down. -/
theorem holds_of_own {w : World} {base : Nat} {e : TypeId} {v : Value} {n : Nat} {ss : List Nd} (h : w.ownsRow base e 3 v n (ndCs ss)) (hn : ss.length = n) (hpos : 0 < n) :
  ∃ g cap, v = .slice (some ⟨g, 0, none⟩) n cap ∧ base ≤ g ∧ g < w.heap.size ∧ n ≤ cap ∧ HoldsK ndC 3 w g 0 ss.toArray := by
 rcases h.2 with ⟨_, h0⟩ | ⟨g, cap, cur, rfl, hb, hg, hnc, hm, hs, ht⟩
 ·omega
 ·have hlt : g < w.heap.size := (Array.getElem?_eq_some_iff.1 hg).1
  refine ⟨g, cap, rfl, hb, hlt, hnc, ?_⟩
  unfold HoldsK
  rw [flat_eq]
  intro j hj
  rw [List.size_toArray, ndCs_len, List.toList_toArray, hn] at hj
  refine ⟨?_, by simp [World.frozen?, hg]⟩
  have e1 : (cur.toList.take (n * 3))[j]? = (ndCs ss)[j]? := by rw [ht]
  rw [List.getElem?_take, if_pos hj, Array.getElem?_toList] at e1
  simp only [World.cell?, hg, Nat.zero_add]
  simp only [Option.isSome_none, Bool.false_eq_true, if_false]
  have hj2 : j < (ndCs ss).length := by rw [ndCs_len, hn]; exact hj
  rw [e1, List.getElem?_eq_getElem hj2]
  simp [getElem!_pos, hj2]
/-- Up. -/
theorem own_sorted {w : World} {base : Nat} {e : TypeId} {g n cap q : Nat} {os : Array Obj} {ss : List Nd} {d : Array Nd} (h : w.ownsRow base e 3 (.slice (some ⟨g, 0, none⟩) n cap) n (ndCs ss)) (hd : d.size = n) (hpos : 0 < n) :
  (sortWorldK ndC 3 w g 0 q d os).ownsRow base e 3 (.slice (some ⟨g, 0, none⟩) n cap) n (ndCs d.toList) ∧ w.grownBy (sortWorldK ndC 3 w g 0 q d os) (some g) := by
 unfold sortWorldK putRowK
 rw [flat_eq]
 have hgr : w.grownBy (grow (putRow id (Sort.ahead w q) g 0 (ndCs d.toList).toArray) os) (some g) := by
  refine ⟨rfl, rfl, rfl, by simp, fun k hk hne => ?_⟩
  rw [heap_grow_old _ _ (by simpa using hk)]
  have : g ≠ k := fun e => hne (by rw [e])
  simp [putRow, mapBlock, Sort.ahead, Array.getElem?_modify, this]
 refine ⟨?_, hgr⟩
 rcases h.2 with ⟨e0, _⟩ | ⟨g', cap', cur, e0, hb, hg, hn, hm, hs, ht⟩
 ·cases e0
 ·injection e0 with e1 _ e3
  injection e1 with e1
  injection e1 with e1
  subst e1; subst e3
  have hglt : g < w.heap.size := (Array.getElem?_eq_some_iff.1 hg).1
  refine ⟨by rw [ndCs_len, Array.length_toList, hd], .inr ⟨g, cap, putCells id 0 (ndCs d.toList).toArray cur, rfl, hb, ?_, hn, hm, by simpa [putCells] using hs, ?_⟩⟩
  ·rw [heap_grow_old _ _ (by simpa using hglt)]
   simp [putRow, mapBlock, Sort.ahead, Array.getElem?_modify, hg, onCells]
  ·apply List.ext_getElem?
   intro j
   rw [List.getElem?_take, Array.getElem?_toList]
   by_cases hj : j < n * 3
   ·have hjc : j < cur.size := by omega
    have hj2 : j < (ndCs d.toList).length := by rw [ndCs_len, Array.length_toList, hd]; exact hj
    rw [if_pos hj, putCells, Array.getElem?_mapIdx, Array.getElem?_eq_getElem hjc, Option.map_some, if_pos (by simpa using hj2), List.getElem?_eq_getElem hj2]
    simp [getElem!_pos, hj2]
   ·rw [if_neg hj, List.getElem?_eq_none (by rw [ndCs_len, Array.length_toList, hd]; omega)]
end Go.Proofs.YtgidnkmlnccaiaaDoor.Q
/- node.Compare as the sort asks it: nothing but draws and new blocks. The walk is written by wip/tool/genC.py of the printed text. -/
namespace Go.Proofs.YtgidnkmlnccaiaaDoor.Q
open Go.RowKit Go.Proofs.YtgidnkmlnccaiaaDoorW.PrintWords Go.Proofs.YtgidnkmlnccaiaaDoorW.PrintLast Go.Proofs.YtgidnkmlnccaiaaDoorW.PrintMore
set_option linter.unusedVariables false
set_option linter.unusedSimpArgs false
structure GrewD (w w' : World) : Prop where
 mk :: (out : ∃ q os', w' = Go.Sort.grow (w.drewN q) os')
theorem grow_alloc (w : World) (os : Array Obj) (o : Obj) : (Go.Sort.grow w os).alloc o = Go.Sort.grow w (os ++ #[o]) := by
 rw [Go.Sort.alloc_eq_grow, Go.Sort.grow_grow]
theorem GrewD.refl (w : World) : GrewD w w := ⟨0, #[], by rw [Go.Sort.grow_empty]; rfl⟩
theorem GrewD.alloc {w w' : World} (h : GrewD w w') (o : Obj) : GrewD w (w'.alloc o) := by
 obtain ⟨q, os, rfl⟩ := h
 exact ⟨q, os ++ #[o], grow_alloc _ _ _⟩
theorem GrewD.alloc' {w w' : World} {o : Obj} (h : GrewD w w') : GrewD w (w'.alloc o) := h.alloc o
theorem GrewD.drewN' {w w' : World} {n : Nat} (h : GrewD w w') : GrewD w (w'.drewN n) := by
 obtain ⟨q, os, rfl⟩ := h
 exact ⟨q + n, os, by show _ = Go.Sort.grow (w.drewN (q + n)) os; unfold Go.Sort.grow World.drewN; simp [Nat.add_assoc]⟩
theorem GrewD.drew {w w' : World} (h : GrewD w w') : GrewD w w'.drew := h.drewN' (n := 1)
theorem GrewD.size {w w' : World} (h : GrewD w w') : w.heap.size ≤ w'.heap.size := by
 obtain ⟨q, os, rfl⟩ := h
 show w.heap.size ≤ (w.heap ++ os).size
 rw [Array.size_append]; omega
theorem GrewD.step {w a b : World} (h : GrewD w a) (hx : ∃ o, b = a.alloc o) : GrewD w b := by
 obtain ⟨o, rfl⟩ := hx
 exact h.alloc o
section
variable {α : Type} {P : Program} {ops : Array Oper} {o : Oper} {a : Act} {Q : Exit → Act → World → Prop} {Kc : Act → World → Prop}
theorem R_lit_stepX (d : Kd α) {w0 W : World} (base e : Nat) (hw : Region.wanted o (yielded ops a.tmps) = true) {N : Tmp} (hd : o.dst = some N) {xs : List α} {inner : List Value} {ok okp : Nat → Prop}
  (hrun : (execOp a.eval o).run P W = .ok (.value (.slice (some ⟨W.heap.size, 0, none⟩) xs.length xs.length)) (W.alloc (.cells inner.toArray e)))
  (hrep : Reps (d.M W base okp) d.sz xs inner) (hok : ∀ k, okp k → ok k) (hfresh : ok W.heap.size) (HB : Below base w0 W) (hbase : base ≤ W.heap.size) (hm : xs.length ≤ 9223372036854775807)
  (h : ∀ v1 w1, d.R e w1 base ok v1 xs → Below base w0 w1 → (∃ ob, w1 = W.alloc ob) → Kc (a.put o.dst v1) w1) : if Region.wanted o (yielded ops a.tmps) = true then Oper.wp P o a W Kc Q else Kc (a.put o.dst undef) W := by
 refine event_step hw hrun (h _ _ ⟨fun k hk => ?_, inner, ?_, ?_⟩ (HB.alloc hbase _) ⟨_, rfl⟩)
 ·have : W.heap.size = k := by simpa [Value.ownBlock] using hk
  subst this
  exact hfresh
 ·have h2 := World.ownsRow_lit (base := base) (e := e) (size := d.sz) W inner.toArray xs.length hbase (by simpa [maxLen] using hm) (by simpa using hrep.1)
  simpa using h2
 ·refine hrep.imp_ (fun p c hp => d.M_mono (fun k hk => ⟨hok k hk.1, fun he => ?_⟩) (Kd.M_below (d.M_bound hp) (below_alloc (Below.refl _ _) _)))
  have h3 : k = W.heap.size := by simpa [Value.ownBlock] using he
  have := hk.2.2.1
  omega
end
set_option maxHeartbeats 8000000 in
set_option maxRecDepth 100000 in
theorem node_Compare.grows (k : Nat) (a0_0 : Int) (a0_1 : Int) (a0_2 : ByteArray) (a1_0 : Int) (a1_1 : Int) (a1_2 : ByteArray) (r : Int) (w : World) (h : node_Compare.f k a0_0 a0_1 a0_2 a1_0 a1_1 a1_2 = some r) :
  Calls Tryd.prog 12 #[.agg #[.int .i64 a0_0, .int .i64 a0_1, .string a0_2], .agg #[.int .i64 a1_0, .int .i64 a1_1, .string a1_2]] w fun e w' => e = .returned (.int .i64 r) ∧ GrewD w w' := by
 have hu24 := Tryd.underlying24
 have HB := Aside0.mk (GrewD.refl w)
 have H : ((cmp_Compare_int.f a0_0 a1_0).bind fun t151 => ((cmp_Compare_int.f a0_1 a1_1).bind fun t152 => ((cmp_Compare_string.f a0_2 a1_2).bind fun t153 => ((cmp_Or_int.f k (([t151, t152, t153] : List Int))).bind fun t157 => (some t157))))) = some r := h
 clear h
 replace H := Option.bind_eq_some_iff.mp H
 obtain ⟨t151, A30, H⟩ := H
 replace H : ((cmp_Compare_int.f a0_1 a1_1).bind fun t152 => ((cmp_Compare_string.f a0_2 a1_2).bind fun t153 => ((cmp_Or_int.f k (([t151, t152, t153] : List Int))).bind fun t157 => (some t157)))) = some r := H
 have A3 := Aside0.mk A30
 clear A30
 replace H := Option.bind_eq_some_iff.mp H
 obtain ⟨t152, A40, H⟩ := H
 replace H : ((cmp_Compare_string.f a0_2 a1_2).bind fun t153 => ((cmp_Or_int.f k (([t151, t152, t153] : List Int))).bind fun t157 => (some t157))) = some r := H
 have A4 := Aside0.mk A40
 clear A40
 replace H := Option.bind_eq_some_iff.mp H
 obtain ⟨t153, A50, H⟩ := H
 replace H : ((cmp_Or_int.f k (([t151, t152, t153] : List Int))).bind fun t157 => (some t157)) = some r := H
 have A5 := Aside0.mk A50
 clear A50
 obtain ⟨y154, hy154⟩ : ∃ y_ : List Int, y_ = (([t151, t152, t153] : List Int)) := ⟨_, rfl⟩
 replace H : ((cmp_Or_int.f k y154).bind fun t157 => (some t157)) = some r := by first | (rw [hy154]; with_reducible exact H) | (have H2_ := (Option.bind_some _ _).symm.trans H; rw [hy154]; with_reducible exact H2_) | (have H2_ := (Option.bind_some _ _).symm.trans H; with_reducible exact H2_) | with_reducible exact H | (rw [hy154]; exact H) | exact H
 have Ny154 := Aside0.mk hy154
 clear hy154
 replace H := Option.bind_eq_some_iff.mp H
 obtain ⟨t157, A60, H⟩ := H
 replace H : (some t157) = some r := H
 have A6 := Aside0.mk A60
 clear A60
 obtain rfl := Option.some.inj H
 go_enter Tryd.func12, Tryd.ntmps12
 go_upto_region 1 with (fail)
 have BK149 : Aside0 (((w.alloc (.cells #[.int .i64 a0_0, .int .i64 a0_1, .string a0_2] 24)).alloc (.cells #[.int .i64 a1_0, .int .i64 a1_1, .string a1_2] 24)).drew.heap[w.heap.size]? = some (.cells #[.int .i64 a0_0, .int .i64 a0_1, .string a0_2] 24 (0, 0))) := ⟨blk_drew (blk_alloc (blk_new _ _) _)⟩
 have BK150 : Aside0 (((w.alloc (.cells #[.int .i64 a0_0, .int .i64 a0_1, .string a0_2] 24)).alloc (.cells #[.int .i64 a1_0, .int .i64 a1_1, .string a1_2] 24)).drew.heap[w.heap.size + 1]? = some (.cells #[.int .i64 a1_0, .int .i64 a1_1, .string a1_2] 24 (0, 0))) := ⟨by
  have := blk_drew (blk_new (w.alloc (.cells #[.int .i64 a0_0, .int .i64 a0_1, .string a0_2] 24)) (.cells #[.int .i64 a1_0, .int .i64 a1_1, .string a1_2] 24))
  rw [World.size_alloc] at this
  exact this⟩
 have n0_ := Aside0.mk (GrewD.drew ((HB.out.alloc (.cells #[.int .i64 a0_0, .int .i64 a0_1, .string a0_2] 24)).alloc (.cells #[.int .i64 a1_0, .int .i64 a1_1, .string a1_2] 24)))
 clear HB
 have HB := n0_
 clear n0_
 generalize ((w.alloc (.cells #[.int .i64 a0_0, .int .i64 a0_1, .string a0_2] 24)).alloc (.cells #[.int .i64 a1_0, .int .i64 a1_1, .string a1_2] 24)) = w8 at BK149 BK150 HB ⊢
 generalize w.heap.size + 1 = gb150 at BK150 ⊢
 generalize hgb_ : w.heap.size = gb149 at BK149 ⊢
 refine start_ (n := 18) (S := fun w' => w'.cell? ⟨gb149, 0, none⟩ = some (.int .i64 a0_0) ∧ w'.cell? ⟨gb149, 1, none⟩ = some (.int .i64 a0_1) ∧ w'.cell? ⟨gb149, 2, none⟩ = some (.string a0_2) ∧ w'.cell? ⟨gb150, 0, none⟩ = some (.int .i64 a1_0) ∧ w'.cell? ⟨gb150, 1, none⟩ = some (.int .i64 a1_1) ∧ w'.cell? ⟨gb150, 2, none⟩ = some (.string a1_2)) (ds := []) #[false, false, false, false, false, false, false, false, false, false, false, false, false, false, false, false, false, false] (by kernel_rfl) rfl rfl ⟨(blk_cell BK149.out 0).trans rfl, (blk_cell BK149.out 1).trans rfl, (blk_cell BK149.out 2).trans rfl, (blk_cell BK150.out 0).trans rfl, (blk_cell BK150.out 1).trans rfl, (blk_cell BK150.out 2).trans rfl⟩ (fun hHeld => ?_); refine with_tabW node_Compare.tab1 node_Compare.bits1 (fun HT_ HW_ => ?_)
 generalize w8.drew = w9 at BK149 BK150 HB hHeld ⊢
 refine pure_ (i := 0) (N := some 5) (v := ?_) (a' := ?_) #[true, false, false, false, false, false, false, false, false, false, false, false, false, false, false, false, false, false] rfl rfl (any_of HT_.out (by kernel_rfl)) (fun _ _ _ h => h) (Or.inl ⟨by rfl, ?_⟩) ?_ ?_
 rotate_left
 ·intro w'
  go_simp
  with_reducible rfl
 rotate_left
 ·simp only [Act.put, List.setIfInBounds_toArray, List.set_cons_zero, List.set_cons_succ, i64_w, i32_w]
  rfl
 refine pure_ (i := 2) (N := some 7) (v := ?_) (a' := ?_) #[true, false, true, false, false, false, false, false, false, false, false, false, false, false, false, false, false, false] rfl rfl (any_of HT_.out (by kernel_rfl)) (fun _ _ _ h => h) (Or.inl ⟨by rfl, ?_⟩) ?_ ?_
 rotate_left
 ·intro w'
  go_simp
  with_reducible rfl
 rotate_left
 ·simp only [Act.put, List.setIfInBounds_toArray, List.set_cons_zero, List.set_cons_succ, i64_w, i32_w]
  rfl
 refine pure_ (i := 5) (N := some 10) (v := ?_) (a' := ?_) #[true, false, true, false, false, true, false, false, false, false, false, false, false, false, false, false, false, false] rfl rfl (any_of HT_.out (by kernel_rfl)) (fun _ _ _ h => h) (Or.inl ⟨by rfl, ?_⟩) ?_ ?_
 rotate_left
 ·intro w'
  go_simp
  with_reducible rfl
 rotate_left
 ·simp only [Act.put, List.setIfInBounds_toArray, List.set_cons_zero, List.set_cons_succ, i64_w, i32_w]
  rfl
 refine pure_ (i := 7) (N := some 12) (v := ?_) (a' := ?_) #[true, false, true, false, false, true, false, true, false, false, false, false, false, false, false, false, false, false] rfl rfl (any_of HT_.out (by kernel_rfl)) (fun _ _ _ h => h) (Or.inl ⟨by rfl, ?_⟩) ?_ ?_
 rotate_left
 ·intro w'
  go_simp
  with_reducible rfl
 rotate_left
 ·simp only [Act.put, List.setIfInBounds_toArray, List.set_cons_zero, List.set_cons_succ, i64_w, i32_w]
  rfl
 refine pure_ (i := 10) (N := some 15) (v := ?_) (a' := ?_) #[true, false, true, false, false, true, false, true, false, false, true, false, false, false, false, false, false, false] rfl rfl (any_of HT_.out (by kernel_rfl)) (fun _ _ _ h => h) (Or.inl ⟨by rfl, ?_⟩) ?_ ?_
 rotate_left
 ·intro w'
  go_simp
  with_reducible rfl
 rotate_left
 ·simp only [Act.put, List.setIfInBounds_toArray, List.set_cons_zero, List.set_cons_succ, i64_w, i32_w]
  rfl
 refine pure_ (i := 12) (N := some 17) (v := ?_) (a' := ?_) #[true, false, true, false, false, true, false, true, false, false, true, false, true, false, false, false, false, false] rfl rfl (any_of HT_.out (by kernel_rfl)) (fun _ _ _ h => h) (Or.inl ⟨by rfl, ?_⟩) ?_ ?_
 rotate_left
 ·intro w'
  go_simp
  with_reducible rfl
 rotate_left
 ·simp only [Act.put, List.setIfInBounds_toArray, List.set_cons_zero, List.set_cons_succ, i64_w, i32_w]
  rfl
 refine take_ (i := 1) (N := some 6) (v := ?_) (a' := ?_) #[true, true, true, false, false, true, false, true, false, false, true, false, true, false, false, false, false, false] rfl rfl (take_ofW HT_.out HW_.out (by kernel_rfl)) (fun _ _ _ h => h) (Or.inl ⟨by rfl, ?_⟩) hHeld ?_ ?_
 rotate_left
 ·rintro w' ⟨s0, s1, s2, s3, s4, s5⟩
  go_simp
  with_reducible rfl
 rotate_left
 ·simp only [Act.put, List.setIfInBounds_toArray, List.set_cons_zero, List.set_cons_succ, i64_w, i32_w]
  rfl
 refine take_ (i := 3) (N := some 8) (v := ?_) (a' := ?_) #[true, true, true, true, false, true, false, true, false, false, true, false, true, false, false, false, false, false] rfl rfl (take_ofW HT_.out HW_.out (by kernel_rfl)) (fun _ _ _ h => h) (Or.inl ⟨by rfl, ?_⟩) hHeld ?_ ?_
 rotate_left
 ·rintro w' ⟨s0, s1, s2, s3, s4, s5⟩
  go_simp
  with_reducible rfl
 rotate_left
 ·simp only [Act.put, List.setIfInBounds_toArray, List.set_cons_zero, List.set_cons_succ, i64_w, i32_w]
  rfl
 refine take_ (i := 6) (N := some 11) (v := ?_) (a' := ?_) #[true, true, true, true, false, true, true, true, false, false, true, false, true, false, false, false, false, false] rfl rfl (take_ofW HT_.out HW_.out (by kernel_rfl)) (fun _ _ _ h => h) (Or.inl ⟨by rfl, ?_⟩) hHeld ?_ ?_
 rotate_left
 ·rintro w' ⟨s0, s1, s2, s3, s4, s5⟩
  go_simp
  with_reducible rfl
 rotate_left
 ·simp only [Act.put, List.setIfInBounds_toArray, List.set_cons_zero, List.set_cons_succ, i64_w, i32_w]
  rfl
 refine take_ (i := 8) (N := some 13) (v := ?_) (a' := ?_) #[true, true, true, true, false, true, true, true, true, false, true, false, true, false, false, false, false, false] rfl rfl (take_ofW HT_.out HW_.out (by kernel_rfl)) (fun _ _ _ h => h) (Or.inl ⟨by rfl, ?_⟩) hHeld ?_ ?_
 rotate_left
 ·rintro w' ⟨s0, s1, s2, s3, s4, s5⟩
  go_simp
  with_reducible rfl
 rotate_left
 ·simp only [Act.put, List.setIfInBounds_toArray, List.set_cons_zero, List.set_cons_succ, i64_w, i32_w]
  rfl
 refine take_ (i := 11) (N := some 16) (v := ?_) (a' := ?_) #[true, true, true, true, false, true, true, true, true, false, true, true, true, false, false, false, false, false] rfl rfl (take_ofW HT_.out HW_.out (by kernel_rfl)) (fun _ _ _ h => h) (Or.inl ⟨by rfl, ?_⟩) hHeld ?_ ?_
 rotate_left
 ·rintro w' ⟨s0, s1, s2, s3, s4, s5⟩
  go_simp
  with_reducible rfl
 rotate_left
 ·simp only [Act.put, List.setIfInBounds_toArray, List.set_cons_zero, List.set_cons_succ, i64_w, i32_w]
  rfl
 refine take_ (i := 13) (N := some 18) (v := ?_) (a' := ?_) #[true, true, true, true, false, true, true, true, true, false, true, true, true, true, false, false, false, false] rfl rfl (take_ofW HT_.out HW_.out (by kernel_rfl)) (fun _ _ _ h => h) (Or.inl ⟨by rfl, ?_⟩) hHeld ?_ ?_
 rotate_left
 ·rintro w' ⟨s0, s1, s2, s3, s4, s5⟩
  go_simp
  with_reducible rfl
 rotate_left
 ·simp only [Act.put, List.setIfInBounds_toArray, List.set_cons_zero, List.set_cons_succ, i64_w, i32_w]
  rfl
 refine one_ (i := 4) (N := some 9) #[true, true, true, true, true, true, true, true, true, false, true, true, true, true, false, false, false, false] rfl rfl (one_of HT_.out (by kernel_rfl)) (by decide) (fun K hK => ?_)
 refine goes_ Tryd.func34 (by kernel_rfl) rfl #[.int .i64 a0_0, .int .i64 a1_0] (by rfl) rfl rfl (by (try simp only [List.map_toArray, List.map_cons, List.map_nil]); first | done | rfl | (simp only [List.length_drop, List.length_take]; rfl)) ?_
 with_reducible refine (cmp_Compare_int.calls a0_0 a1_0 t151 _ A3.out).mono ?_
 rintro e w' ⟨rfl, ⟨nd, rfl⟩⟩
 refine ⟨_, rfl, ?_⟩
 refine hK.out _ _ ⟨(blk_cell BK149.out 0).trans rfl, (blk_cell BK149.out 1).trans rfl, (blk_cell BK149.out 2).trans rfl, (blk_cell BK150.out 0).trans rfl, (blk_cell BK150.out 1).trans rfl, (blk_cell BK150.out 2).trans rfl⟩ (fun hHeld => ?_)
 clear hK K
 refine norm_ (a' := ?_) ?_ ?_
 rotate_left
 ·show Act.put _ (some 9) _ = _
  simp only [Act.put, List.setIfInBounds_toArray, List.set_cons_zero, List.set_cons_succ, i64_w, i32_w]
  rfl
 refine one_ (i := 9) (N := some 14) #[true, true, true, true, true, true, true, true, true, true, true, true, true, true, false, false, false, false] rfl rfl (one_of HT_.out (by kernel_rfl)) (by decide) (fun K hK => ?_)
 refine goes_ Tryd.func34 (by kernel_rfl) rfl #[.int .i64 a0_1, .int .i64 a1_1] (by rfl) rfl rfl (by (try simp only [List.map_toArray, List.map_cons, List.map_nil]); first | done | rfl | (simp only [List.length_drop, List.length_take]; rfl)) ?_
 with_reducible refine (cmp_Compare_int.calls a0_1 a1_1 t152 _ A4.out).mono ?_
 rintro e w' ⟨rfl, ⟨nd, rfl⟩⟩
 refine ⟨_, rfl, ?_⟩
 refine hK.out _ _ ⟨(blk_cell BK149.out 0).trans rfl, (blk_cell BK149.out 1).trans rfl, (blk_cell BK149.out 2).trans rfl, (blk_cell BK150.out 0).trans rfl, (blk_cell BK150.out 1).trans rfl, (blk_cell BK150.out 2).trans rfl⟩ (fun hHeld => ?_)
 clear hK K
 refine norm_ (a' := ?_) ?_ ?_
 rotate_left
 ·show Act.put _ (some 14) _ = _
  simp only [Act.put, List.setIfInBounds_toArray, List.set_cons_zero, List.set_cons_succ, i64_w, i32_w]
  rfl
 refine one_ (i := 14) (N := some 19) #[true, true, true, true, true, true, true, true, true, true, true, true, true, true, true, false, false, false] rfl rfl (one_of HT_.out (by kernel_rfl)) (by decide) (fun K hK => ?_)
 refine goes_ Tryd.func35 (by kernel_rfl) rfl #[.string a0_2, .string a1_2] (by rfl) rfl rfl (by (try simp only [List.map_toArray, List.map_cons, List.map_nil]); first | done | rfl | (simp only [List.length_drop, List.length_take]; rfl)) ?_
 with_reducible refine (cmp_Compare_string.calls a0_2 a1_2 t153 _ A5.out).mono ?_
 rintro e w' ⟨rfl, ⟨nd, rfl⟩⟩
 refine ⟨_, rfl, ?_⟩
 refine hK.out _ _ ⟨(blk_cell BK149.out 0).trans rfl, (blk_cell BK149.out 1).trans rfl, (blk_cell BK149.out 2).trans rfl, (blk_cell BK150.out 0).trans rfl, (blk_cell BK150.out 1).trans rfl, (blk_cell BK150.out 2).trans rfl⟩ (fun hHeld => ?_)
 clear hK K
 refine norm_ (a' := ?_) ?_ ?_
 rotate_left
 ·show Act.put _ (some 19) _ = _
  simp only [Act.put, List.setIfInBounds_toArray, List.set_cons_zero, List.set_cons_succ, i64_w, i32_w]
  rfl
 refine one_ (i := 15) (N := some 20) #[true, true, true, true, true, true, true, true, true, true, true, true, true, true, true, true, false, false] rfl rfl (one_of HT_.out (by kernel_rfl)) (by decide) (fun K hK => ?_)
 refine R_lit_stepX (Kd.int .i64) _ 3 ?hg (N := 20) ?hd (xs := ([t151, t152, t153] : List Int)) (inner := [.int .i64 t151, .int .i64 t152, .int .i64 t153]) (ok := fun _ => True) (okp := fun _ => True) ?hr ?hp (fun _ hk => hk) trivial (Below.refl _ _) (Nat.le_refl _) (by simp) ?_; (case hd => rfl); (case hg => rfl); (case hr => first | (go_simp; done) | (go_simp; rfl)); (case hp => exact (Reps.one (show Kd.M (Kd.int .i64) _ _ _ t151 [.int .i64 t151] from rfl) (Reps.one (show Kd.M (Kd.int .i64) _ _ _ t152 [.int .i64 t152] from rfl) (Reps.one (show Kd.M (Kd.int .i64) _ _ _ t153 [.int .i64 t153] from rfl) (Reps.none _ _)))))
 intro v155 w10 ho11 hb hx_
 (first | rw [← Ny154.out] at ho11 | (simp only [Int.reduceToNat] at ho11; rw [← Ny154.out] at ho11))
 have n0_ := Aside0.mk (Kd.R_lower ho11 (GrewD.size (by repeat (first | (with_reducible first | exact HB.out | apply GrewD.alloc' | apply GrewD.drewN' | apply GrewD.drew) | exact HB.out))))
 have n1_ := Aside0.mk (blk_below (g := gb149) (o := .cells #[.int .i64 a0_0, .int .i64 a0_1, .string a0_2] 24 (0, 0)) (by (with_reducible repeat (first | refine blk_drewN ?_ _ | refine blk_drew ?_ | refine blk_alloc ?_ _)); exact BK149.out) hb)
 have n2_ := Aside0.mk (blk_below (g := gb150) (o := .cells #[.int .i64 a1_0, .int .i64 a1_1, .string a1_2] 24 (0, 0)) (by (with_reducible repeat (first | refine blk_drewN ?_ _ | refine blk_drew ?_ | refine blk_alloc ?_ _)); exact BK150.out) hb)
 have n3_ := Aside0.mk (GrewD.step (by repeat (first | (with_reducible first | exact HB.out | apply GrewD.alloc' | apply GrewD.drewN' | apply GrewD.drew) | exact HB.out)) hx_)
 clear BK149
 clear BK150
 clear HB
 have HO156 := n0_
 have BK149 := n1_
 have BK150 := n2_
 have HB := n3_
 clear n0_ n1_ n2_ n3_
 clear hb hx_ ho11
 obtain ⟨Ao12, co12, eo12⟩ := Kd.R_slice HO156.out
 (first | subst eo12 | (injection eo12 with f1_ f2_ f3_; have f4_ := f1_.symm; have f5_ := f3_.symm; clear f1_ f2_ f3_; subst f4_; subst f5_))
 refine hK.out _ _ ⟨(blk_cell BK149.out 0).trans rfl, (blk_cell BK149.out 1).trans rfl, (blk_cell BK149.out 2).trans rfl, (blk_cell BK150.out 0).trans rfl, (blk_cell BK150.out 1).trans rfl, (blk_cell BK150.out 2).trans rfl⟩ (fun hHeld => ?_)
 clear hK K
 refine norm_ (a' := ?_) ?_ ?_
 rotate_left
 ·show Act.put _ (some 20) _ = _
  simp only [Act.put, List.setIfInBounds_toArray, List.set_cons_zero, List.set_cons_succ, i64_w, i32_w]
  rfl
 refine one_ (i := 16) (N := some 21) #[true, true, true, true, true, true, true, true, true, true, true, true, true, true, true, true, true, false] rfl rfl (one_of HT_.out (by kernel_rfl)) (by decide) (fun K hK => ?_)
 refine goes_ Tryd.func33 (by kernel_rfl) rfl #[.slice Ao12 y154.length co12] (by rfl) rfl rfl (by (try simp only [List.map_toArray, List.map_cons, List.map_nil]); first | done | rfl | (simp only [List.length_drop, List.length_take]; rfl)) ?_
 with_reducible refine (cmp_Or_int.calls k _ _ y154 t157 _ ?side1 ?side2 A6.out).mono ?_
 (case side1 => repeat (first | exact (Kd.R_reads' HO156.out).2.2 | (with_reducible refine Kd.C_alloc ?_ _) | (with_reducible refine Kd.C_drewN ?_ _) | (with_reducible refine Kd.C_drew ?_)))
 (case side2 => exact (Kd.R_reads' HO156.out).2.1)
 rintro e w' ⟨rfl, ⟨nd, rfl⟩⟩
 refine ⟨_, rfl, ?_⟩
 refine hK.out _ _ ⟨(blk_cell BK149.out 0).trans rfl, (blk_cell BK149.out 1).trans rfl, (blk_cell BK149.out 2).trans rfl, (blk_cell BK150.out 0).trans rfl, (blk_cell BK150.out 1).trans rfl, (blk_cell BK150.out 2).trans rfl⟩ (fun hHeld => ?_)
 clear hK K
 refine norm_ (a' := ?_) ?_ ?_
 rotate_left
 ·show Act.put _ (some 21) _ = _
  simp only [Act.put, List.setIfInBounds_toArray, List.set_cons_zero, List.set_cons_succ, i64_w, i32_w]
  rfl
 refine pure_ (i := 17) (N := some 4) (v := ?_) (a' := ?_) #[true, true, true, true, true, true, true, true, true, true, true, true, true, true, true, true, true, true] rfl rfl (any_of HT_.out (by kernel_rfl)) (fun _ _ _ h => h) (Or.inl ⟨by rfl, ?_⟩) ?_ ?_
 rotate_left
 ·intro w'
  go_simp
  with_reducible rfl
 rotate_left
 ·simp only [Act.put, List.setIfInBounds_toArray, List.set_cons_zero, List.set_cons_succ, i64_w, i32_w]
  rfl
 refine done_ (done_of HT_.out (by kernel_rfl)) ?_
 try go_wp2
 go_ret
 exact ⟨by first | rfl | (simp [errW_none, errW_some] <;> rfl) | (simp [*, errW_none, errW_some] <;> rfl), by repeat (first | (with_reducible first | exact HB.out | apply GrewD.alloc' | apply GrewD.drewN' | apply GrewD.drew) | exact HB.out)⟩
end Go.Proofs.YtgidnkmlnccaiaaDoor.Q
/- The order of nodes as node.Compare tells it. -/
namespace Go.Proofs.YtgidnkmlnccaiaaDoor.Q
open Go.RowKit Go.Proofs.YtgidnkmlnccaiaaDoorW.PrintWords Go.Proofs.YtgidnkmlnccaiaaDoorW.PrintLast Go.Proofs.YtgidnkmlnccaiaaDoorW.PrintMore
set_option linter.unusedVariables false
set_option linter.unusedSimpArgs false
open Go.Sort (SWO)
def cmpN (a b : Nd) : Int := if ltN a b = true then -1 else if ltN b a = true then 1 else 0
def cmpI (a b : Int) : Int := if a < b then -1 else if b < a then 1 else 0
theorem cmpI_f (a b : Int) : cmp_Compare_int.f a b = some (cmpI a b) := by
 have h1 : ∀ x : Int, cmp_isNaN_int.f x = some false := fun x => by simp [cmp_isNaN_int.f]
 unfold cmp_Compare_int.f cmpI
 rw [h1, h1]
 simp only [Option.bind_some]
 rw [if_neg (by decide), if_neg (by decide)]
 by_cases h : a < b
 ·rw [if_pos h, if_pos h]
 ·rw [if_neg h, if_neg h]
  by_cases h2 : b < a
  ·rw [if_pos h2, if_pos (show a > b from h2)]
  ·rw [if_neg h2, if_neg (show ¬ a > b from h2)]
def orI (l : List Int) : Int := (l.find? (fun x => decide (x ≠ 0))).getD 0
theorem orI_f (a b c : Int) : cmp_Or_int.f 4 [a, b, c] = some (orI [a, b, c]) := by
 unfold cmp_Or_int.f orI
 have w1 : wrap64 (0 + 1) = 1 := by kernel_rfl
 have w2 : wrap64 (1 + 1) = 2 := by kernel_rfl
 have w3 : wrap64 (2 + 1) = 3 := by kernel_rfl
 have r0 : rd [a, b, c] 0 = a := rfl
 have r1 : rd [a, b, c] 1 = b := rfl
 have r2 : rd [a, b, c] 2 = c := rfl
 simp only [cmp_Or_int.l0, List.length_cons, List.length_nil, w1, w2, w3, r0, r1, r2]
 by_cases ha : a = 0 <;> by_cases hb : b = 0 <;> by_cases hc : c = 0 <;> simp [ha, hb, hc, List.find?]
theorem orI_cons (x : Int) (l : List Int) : orI (x :: l) = if x = 0 then orI l else x := by
 unfold orI
 rw [List.find?_cons]
 by_cases h : x = 0 <;> simp [h]
theorem cmpN_eq (a b : Nd) : orI [cmpI a.f0 b.f0, cmpI a.f1 b.f1, cmpS a.f2.toList b.f2.toList] = cmpN a b := by
 rw [orI_cons, orI_cons, orI_cons]
 unfold cmpN ltN cmpI cmpS
 rcases Int.lt_trichotomy a.f0 b.f0 with h | h | h
 ·have h2 : ¬ b.f0 < a.f0 := by omega
  have h3 : ¬ a.f0 = b.f0 := by omega
  simp [h, h3]
 ·rw [if_neg (show ¬ a.f0 < b.f0 by omega), if_neg (show ¬ b.f0 < a.f0 by omega), if_pos rfl, if_pos h, if_pos h.symm]
  rcases Int.lt_trichotomy a.f1 b.f1 with k | k | k
  ·have h3 : ¬ a.f1 = b.f1 := by omega
   simp [k, h3]
  ·rw [if_neg (show ¬ a.f1 < b.f1 by omega), if_neg (show ¬ b.f1 < a.f1 by omega), if_pos rfl, if_pos k, if_pos k.symm]
   cases h1 : Op.bytesLess a.f2.toList b.f2.toList <;> cases h2 : Op.bytesLess b.f2.toList a.f2.toList <;> simp [orI]
  ·have h2 : ¬ a.f1 < b.f1 := by omega
   have h3 : ¬ a.f1 = b.f1 := by omega
   have h4 : ¬ b.f1 = a.f1 := by omega
   simp [k, h2, h3, h4]
 ·have h2 : ¬ a.f0 < b.f0 := by omega
  have h3 : ¬ a.f0 = b.f0 := by omega
  have h4 : ¬ b.f0 = a.f0 := by omega
  simp [h, h2, h3, h4]
theorem cmpN_f (a b : Nd) : node_Compare.f 4 a.f0 a.f1 a.f2 b.f0 b.f1 b.f2 = some (cmpN a b) := by
 unfold node_Compare.f cmp_Compare_string.f
 rw [cmpI_f, cmpI_f]
 simp only [Option.bind_some]
 rw [orI_f, cmpN_eq]; rfl
theorem cmpN_lt (a b : Nd) : decide (cmpN a b < 0) = ltN a b := by
 unfold cmpN
 cases h : ltN a b
 ·rw [if_neg (by decide)]
  cases ltN b a <;> decide
 ·rw [if_pos rfl]; rfl
theorem ltN_swo : SWO ltN where
 irrefl := ltN_irrefl
 trans x y z h1 h2 := ltN_trans h1 h2
 ntrans x y z h1 h2 := by
  cases h : ltN x z
  ·rfl
  ·exfalso
   cases h3 : ltN y x
   ·rw [ltN_total h1 h3] at h; rw [h2] at h; cases h
   ·have := ltN_trans h3 h
    rw [h2] at this; cases this
end Go.Proofs.YtgidnkmlnccaiaaDoor.Q
-- (laid by the kit's shelf_lay_g and lay-plain at this seat's dump)
/- slices.SortFunc of nodes: the library's structure at this program. -/
namespace Go.Proofs
open Go.Shelf
def Tryd.sortNd_ren : Go.Shelf.Ren := ⟨fun | 6 => 54 | 15 => 67 | 14 => 66 | 28 => 89 | 29 => 90 | 20 => 81 | 21 => 82 | 22 => 83 | 23 => 84 | 24 => 85 | 25 => 86 | 26 => 87 | 27 => 88 | 46 => 96 | 47 => 97 | 48 => 98 | 49 => 99 | 50 => 100 | 57 => 103 | n => n, fun | 22 => 45 | 24 => 24 | 25 => 36 | 3 => 3 | 39 => 107 | 0 => 0 | 53 => 130 | 55 => 114 | 4 => 4 | 46 => 124 | 45 => 123 | 50 => 65 | 5 => 5 | 9 => 9 | 66 => 136 | 70 => 140 | 76 => 142 | 77 => 143 | n => n, fun | n => n⟩
theorem Tryd.sortNd : Go.Proofs.SlLaysF0.n6 Tryd.prog Tryd.sortNd_ren := {
 mixed := by kernel_rfl
 f6 := ⟨Tryd.f54.name, by decide, Tryd.func54.trans (congrArg some (by kernel_rfl))⟩
 f14 := ⟨Tryd.f66.name, by decide, Tryd.func66.trans (congrArg some (by kernel_rfl))⟩
 f15 := Tryd.func67.trans (congrArg some (by kernel_rfl))
 f20 := ⟨Tryd.f81.name, by decide, Tryd.func81.trans (congrArg some (by kernel_rfl))⟩
 f21 := ⟨Tryd.f82.name, by decide, Tryd.func82.trans (congrArg some (by kernel_rfl))⟩
 f22 := ⟨Tryd.f83.name, by decide, Tryd.func83.trans (congrArg some (by kernel_rfl))⟩
 f23 := ⟨Tryd.f84.name, by decide, Tryd.func84.trans (congrArg some (by kernel_rfl))⟩
 f24 := ⟨Tryd.f85.name, by decide, Tryd.func85.trans (congrArg some (by kernel_rfl))⟩
 f25 := ⟨Tryd.f86.name, by decide, Tryd.func86.trans (congrArg some (by kernel_rfl))⟩
 f26 := ⟨Tryd.f87.name, by decide, Tryd.func87.trans (congrArg some (by kernel_rfl))⟩
 f27 := ⟨Tryd.f88.name, by decide, Tryd.func88.trans (congrArg some (by kernel_rfl))⟩
 f28 := Tryd.func89.trans (congrArg some (by kernel_rfl))
 f29 := Tryd.func90.trans (congrArg some (by kernel_rfl))
 f46 := ⟨Tryd.f96.name, by decide, Tryd.func96.trans (congrArg some (by kernel_rfl))⟩
 f47 := Tryd.func97.trans (congrArg some (by kernel_rfl))
 f48 := Tryd.func98.trans (congrArg some (by kernel_rfl))
 f49 := ⟨Tryd.f99.name, by decide, Tryd.func99.trans (congrArg some (by kernel_rfl))⟩
 f50 := ⟨Tryd.f100.name, by decide, Tryd.func100.trans (congrArg some (by kernel_rfl))⟩
 f57 := ⟨Tryd.f103.name, by decide, Tryd.func103.trans (congrArg some (by kernel_rfl))⟩
 t0 := Tryd.underlying0
 a0 := Tryd.isAgg0
 z0 := Tryd.sizeOf0
 v0 := Tryd.zeroValue0
 t3 := Tryd.underlying3
 a3 := Tryd.isAgg3
 z3 := Tryd.sizeOf3
 v3 := Tryd.zeroValue3
 t4 := Tryd.underlying4
 a4 := Tryd.isAgg4
 z4 := Tryd.sizeOf4
 v4 := Tryd.zeroValue4
 t5 := Tryd.underlying5
 a5 := Tryd.isAgg5
 z5 := Tryd.sizeOf5
 v5 := Tryd.zeroValue5
 t9 := Tryd.underlying9
 a9 := Tryd.isAgg9
 z9 := Tryd.sizeOf9
 v9 := Tryd.zeroValue9
 t22 := Tryd.underlying45
 a22 := Tryd.isAgg45
 z22 := Tryd.sizeOf45
 v22 := Tryd.zeroValue45
 t25 := Tryd.underlying36
 a25 := Tryd.isAgg36
 z25 := Tryd.sizeOf36
 v25 := Tryd.zeroValue36
 t39 := Tryd.underlying107
 a39 := Tryd.isAgg107
 z39 := Tryd.sizeOf107
 v39 := Tryd.zeroValue107
 t45 := Tryd.underlying123
 a45 := Tryd.isAgg123
 z45 := Tryd.sizeOf123
 v45 := Tryd.zeroValue123
 t46 := Tryd.underlying124
 a46 := Tryd.isAgg124
 z46 := Tryd.sizeOf124
 v46 := Tryd.zeroValue124
 t50 := Tryd.underlying65
 a50 := Tryd.isAgg65
 z50 := Tryd.sizeOf65
 v50 := Tryd.zeroValue65
 t53 := Tryd.underlying130
 a53 := Tryd.isAgg130
 z53 := Tryd.sizeOf130
 v53 := Tryd.zeroValue130
 t55 := Tryd.underlying114
 a55 := Tryd.isAgg114
 z55 := Tryd.sizeOf114
 v55 := Tryd.zeroValue114
 t66 := Tryd.underlying136
 a66 := Tryd.isAgg136
 z66 := Tryd.sizeOf136
 v66 := Tryd.zeroValue136
 t70 := Tryd.underlying140
 a70 := Tryd.isAgg140
 z70 := Tryd.sizeOf140
 v70 := Tryd.zeroValue140
 t76 := Tryd.underlying142
 a76 := Tryd.isAgg142
 z76 := Tryd.sizeOf142
 v76 := Tryd.zeroValue142
 t77 := Tryd.underlying143
 a77 := Tryd.isAgg143
 z77 := Tryd.sizeOf143
 v77 := Tryd.zeroValue143 }
end Go.Proofs
/- slices.SortFunc, SortedFunc, Set.List: by hand. -/
namespace Go.Proofs.YtgidnkmlnccaiaaDoor.Q
open Go.RowKit Go.Proofs.YtgidnkmlnccaiaaDoorW.PrintWords Go.Proofs.YtgidnkmlnccaiaaDoorW.PrintLast Go.Proofs.YtgidnkmlnccaiaaDoorW.PrintMore
set_option linter.unusedVariables false
set_option linter.unusedSimpArgs false
open Go.Shelf Go.Lib Go.Sort
abbrev fSo : Nat := 54
abbrev fCm : Nat := 12
theorem ltOf_cmpN : ltOf cmpN = ltN := by
 funext x y
 exact cmpN_lt x y
theorem cmpLaysNd (blk off size : Nat) (w : World) : CmpLays Tryd.prog fCm #[] ndC 3 cmpN blk off size w := fun _ _ _ _ x y =>
 (node_Compare.grows 4 x.f0 x.f1 x.f2 y.f0 y.f1 y.f2 (cmpN x y) _ (cmpN_f x y)).mono fun _ _ h => ⟨h.1, h.2.out⟩
theorem sort_Nd (v : Value) (n base : Nat) (ss : List Nd) (w : World) (h : w.ownsRow base 24 3 v n (ndCs ss)) (hn : ss.length = n) (hlen : n ≤ 1000000) :
  Calls Tryd.prog fSo #[v, .func (.func fCm) #[] #[]] w fun e w' => e = .returned (.tuple #[]) ∧ ∃ ss' : List Nd, ss'.Perm ss ∧ ss'.Pairwise (fun a b => ltN b a = false) ∧ w'.ownsRow base 24 3 v n (ndCs ss') ∧ w.grownBy w' v.ownBlock := by
 have eg : ∀ args w, (callFunc fCm args).run Tryd.prog w = .ok (.enter fCm args) w := enters_of Tryd.func12 (by kernel_rfl) rfl
 rcases Nat.eq_zero_or_pos n with h0 | hpos
 ·subst h0
  have he : ss = [] := List.length_eq_zero_iff.mp hn
  subst he
  obtain ⟨A, c, rfl⟩ := own_slice h
  have hcon := AnyF.slices_SortFunc_none Tryd.sortNd A c (.func (.func fCm) #[] #[]) w
  change Calls Tryd.prog fSo _ _ _ at hcon
  refine hcon.mono ?_
  rintro e w' ⟨rfl, rfl⟩
  exact ⟨rfl, [], List.Perm.refl _, List.Pairwise.nil, h, ⟨rfl, rfl, rfl, Nat.le_refl _, fun _ _ _ => rfl⟩⟩
 ·obtain ⟨g, cap, rfl, hb, hg, hc, hH⟩ := holds_of_own h hn hpos
  have hs : ss.toArray.size = n := by rw [List.size_toArray]; exact hn
  have hcon := AnyQ.slices_SortFunc Tryd.sortNd 3 Tryd.isAgg24 Tryd.sizeOf24 ndC (fun _ => rfl) (fun x v hv => by simp [ndC] at hv; rcases hv with rfl | rfl | rfl <;> rfl) cmpN (by rw [ltOf_cmpN]; exact ltN_swo) fCm #[] g 0 cap ss.toArray w eg (cmpLaysNd g 0 ss.toArray.size w) hH hg (by rw [hs]; omega)
  change Calls Tryd.prog fSo _ _ _ at hcon
  rw [hs] at hcon
  refine hcon.mono ?_
  rintro e w' ⟨rfl, d', q, os, hp, hso, rfl⟩
  have hd : d'.size = n := by rw [hp.1, hs]
  obtain ⟨h1, h2⟩ := own_sorted (q := q) (os := os) h hd hpos
  refine ⟨rfl, d'.toList, ?_, ?_, h1, h2⟩
  ·have := hp.2.2
   rw [show d'.extract 0 n = d' by rw [← hd]; exact Array.extract_size, show ss.toArray.extract 0 n = ss.toArray by rw [← hs]; exact Array.extract_size] at this
   simpa using this
  ·rw [List.pairwise_iff_getElem]
   intro i j hi hj hij
   have hj' : j < n := by rw [Array.length_toList, hd] at hj; exact hj
   have := hso i j (Nat.zero_le _) hij hj'
   rw [ltOf_cmpN, getElem!_pos d' j (by omega), getElem!_pos d' i (by omega)] at this
   simpa using this
theorem up_of_sorted {l : List Nd} (h : l.Pairwise (fun a b => ltN b a = false)) (hn : l.Nodup) : Up l := by
 refine (List.pairwise_and_iff.mpr ⟨h, hn⟩).imp ?_
 rintro a b ⟨h1, h2⟩
 cases h3 : ltN a b
 ·exact absurd (ltN_total h3 h1) h2
 ·rfl
theorem reps_nd (w : World) (base : Nat) (ok : Nat → Prop) (l : List Nd) : Reps (k24.M w base ok) k24.sz l (ndCs l) := by
 have : ∀ (l acc : List Nd), Reps (k24.M w base ok) k24.sz acc (ndCs acc) → Reps (k24.M w base ok) k24.sz (acc ++ l) (ndCs (acc ++ l)) := by
  intro l
  induction l with
  | nil => intro acc h; rw [List.append_nil]; exact h
  | cons x l ih =>
   intro acc h
   have h2 := ih (acc ++ [x]) (by rw [ndCs_snoc]; exact Reps.snoc h (k24_mkM _ _ _ x) rfl)
   rw [List.append_assoc] at h2
   exact h2
 exact this l [] (Reps.none _ _)
theorem R_of_nd {w : World} {base : Nat} {v : Value} {l : List Nd} (h : w.ownsRow base 24 3 v l.length (ndCs l)) : k24.R 24 w base (fun _ => True) v l :=
 ⟨fun _ _ => trivial, ndCs l, h, reps_nd _ _ _ _⟩
set_option maxHeartbeats 2000000 in
theorem sorted_Nd (lb : Array Value) (r : List Nd) (w : World) (hseq : SeqGives Fence.wide (4 - 1 - 1) Tryd.prog kK1 lb ndV (fun ss => ss.Perm r) r.length w) (hup : Up r) (hlen : r.length ≤ 1000000) :
  Calls Tryd.prog 40 #[.func (.func kK1) #[] lb, .func (.func fCm) #[] #[]] w fun e w' => ∃ v, e = .returned v ∧ w'.ownsRow w.heap.size 24 3 v r.length (ndCs r) ∧ Below w.heap.size w w' := by
 have HC := Aside0.mk (callsIn_wide.1 (collect_in Fence.wide 4 trivial trivial rfl (by decide) kK1 lb trivial (enters_of Tryd.func55 (by kernel_rfl) rfl) (fun ss => ss.Perm r) r.length (by unfold maxLen; omega) (by omega) w hseq))
 have HUP := Aside0.mk hup; have HL := Aside0.mk hlen
 clear hseq hup hlen
 go_enter Tryd.func40, Tryd.ntmps40
 go_wp2_with fail
 refine HC.out.mono ?_
 rintro e w1 ⟨v, ss, rfl, hp, hown, hb⟩
 have HP := Aside0.mk hp; have HO := Aside0.mk hown; have HB := Aside0.mk hb
 clear hp hown hb HC
 go_wp2_with fail
 refine (sort_Nd v ss.length w.heap.size ss w1 HO.out rfl (by rw [HP.out.length_eq]; exact HL.out)).mono ?_
 rintro e w2 ⟨rfl, ss', hp', hso, hown, hg⟩
 have he : ss' = r := up_ext (up_of_sorted hso ((hp'.trans HP.out).nodup_iff.mpr HUP.out.nodup)) HUP.out (fun x => (hp'.trans HP.out).mem_iff)
 subst he
 have HO2 : Aside0 (w2.ownsRow w.heap.size 24 3 v ss'.length (ndCs ss')) := ⟨by rw [HP.out.length_eq] at hown; exact hown⟩
 have HB2 : Aside0 (Below w.heap.size w w2) := ⟨HB.out.grown hg HB.out.size (fun k hk => own_base HO.out k hk)⟩
 clear hp' hso hown hg
 go_wp2
 go_ret
 exact ⟨v, rfl, HO2.out, HB2.out⟩
set_option maxHeartbeats 2000000 in
theorem set_List (m : Option Nat) (r : List Nd) (w : World) (h : SetO w m r) (hlen : r.length ≤ 1000000) :
  Calls Tryd.prog 27 #[.agg #[.map m]] w fun e w' => ∃ v, e = .returned v ∧ k24.R 24 w' w.heap.size (fun _ => True) v r ∧ Below w.heap.size w w' := by
 have HB := Aside0.mk (below_alloc (below_alloc (Below.refl w.heap.size w) (.cells #[.map m] 50)) (.cells #[.map m] tM))
 have HM := Aside0.mk ((h.alloc (.cells #[.map m] 50)).alloc (.cells #[.map m] tM))
 have HK := Aside0.mk (callsIn_wide.1 (keys_in Fence.wide 4 trivial rfl m (w.alloc (.cells #[.map m] 50))))
 have HT : Aside0 (((w.alloc (.cells #[.map m] 50)).alloc (.cells #[.map m] tM)).heap[w.heap.size + 1]? = some (.cells #[.map m] tM (0, 0))) := ⟨by
  have := blk_new (w.alloc (.cells #[.map m] 50)) (.cells #[.map m] tM)
  rw [World.size_alloc] at this
  exact this⟩
 have HSZ : Aside0 (((w.alloc (.cells #[.map m] 50)).alloc (.cells #[.map m] tM)).heap.size = w.heap.size + 1 + 1) := ⟨by rw [World.size_alloc, World.size_alloc]⟩
 have HUP := Aside0.mk h.up
 clear h
 go_enter Tryd.func27, Tryd.ntmps27
 go_wp2_with fail
 refine HK.out.mono ?_
 rintro e w2 ⟨rfl, rfl⟩
 clear HK
 rw [World.size_alloc]
 generalize (w.alloc (.cells #[.map m] 50)).alloc (.cells #[.map m] tM) = w1 at HB HM HT HSZ ⊢
 have hseq := keys_gives Fence.wide (4 - 1 - 1) trivial rfl (by decide) (w.heap.size + 1) m r w1 (by rw [HSZ.out]; omega) (bk1 HT.out).1 HM.out
 have HC := Aside0.mk (sorted_Nd _ r w1 hseq HUP.out hlen)
 clear hseq
 go_wp2_with fail
 refine HC.out.mono ?_
 rintro e w2 ⟨v, rfl, hown, hb⟩
 have HR : Aside0 (k24.R 24 w2 w.heap.size (fun _ => True) v r) := ⟨R_of_nd (own_weaken hown (by rw [HSZ.out]; omega))⟩
 have HB2 : Aside0 (Below w.heap.size w w2) := ⟨below_step HB.out hb⟩
 clear hown hb HC
 go_wp2
 go_ret
 exact ⟨v, rfl, HR.out, HB2.out⟩
end Go.Proofs.YtgidnkmlnccaiaaDoor.Q
/- From what the row lists to what the calls read of the package-level variables: by hand. -/
namespace Go.Proofs.YtgidnkmlnccaiaaDoor.Q
open Go.RowKit Go.Proofs.YtgidnkmlnccaiaaDoorW.PrintWords Go.Proofs.YtgidnkmlnccaiaaDoorW.PrintLast Go.Proofs.YtgidnkmlnccaiaaDoorW.PrintMore
set_option linter.unusedVariables false
set_option linter.unusedSimpArgs false
theorem gPow : Tryd.prog.globalNamed "internal/strconv.uint64pow10" = some 0 := by kernel_rfl
theorem gPowType : (Tryd.prog.globals[0]?).map (·.type) = some 134 := by kernel_rfl
theorem cellsU64 : Tryd.prog.cellsOf 114 = 1 := by kernel_rfl
theorem cellsPow : Tryd.prog.cellsOf 134 = 20 := by kernel_rfl
theorem powData : (Rows.laid_internal_strconv_uint64pow10 : DataW Unit) = Lib.tabData .u64 Lib.pow10Tab := by kernel_rfl
def listedG : List (String × DataW Unit) := [("math/bits.deBruijn32tab", Rows.laid_math_bits_deBruijn32tab), ("math/bits.deBruijn64tab", Rows.laid_math_bits_deBruijn64tab), ("internal/strconv.uint64pow10", Rows.laid_internal_strconv_uint64pow10)]
theorem glob_of_laid {W : World} (h : laidMetH Tryd.prog listedG W) : Glob W := by
 rw [MakeChecks.laidMetH_plain _ _ _ (by kernel_rfl)] at h
 have h2 := h.tail.tail
 rw [powData] at h2
 exact Lib.tabIs_of_head gPow gPowType Tryd.underlying134 Tryd.underlying114 cellsU64 cellsPow h2
def nA : Nd := ⟨1, 3, ⟨#[84]⟩⟩
def nB : Nd := ⟨2, 0, ⟨#[84]⟩⟩
def rT : S28 := ⟨⟨#[84]⟩, [⟨⟨#[110]⟩, ⟨#[105, 110, 116]⟩⟩, ⟨⟨#[117]⟩, ⟨#[42, 85]⟩⟩]⟩
def rU : S28 := ⟨⟨#[85]⟩, []⟩
def eB : S40 := ⟨nB, 1, ⟨2, 0, ⟨#[85]⟩⟩⟩
theorem nA_wf : ndW nA := ⟨by decide, by decide, by decide⟩
theorem nB_wf : ndW nB := ⟨by decide, by decide, by decide⟩
theorem ofL_BAB : ofL [nB, nA, nB] = [nA, nB] := by kernel_rfl
theorem first_B : node_First.f 60 [rT, rU] 2 0 ⟨#[84]⟩ = some [eB] := by kernel_rfl
theorem first_A : node_First.f 60 [] 1 3 ⟨#[84]⟩ = some [] := by kernel_rfl
theorem text_A : node_Text.f 60 1 3 ⟨#[84]⟩ = some ⟨#[115, 105, 116, 101, 32, 51, 32, 84]⟩ := by kernel_rfl
theorem text_B : node_Text.f 60 2 0 ⟨#[84]⟩ = some ⟨#[111, 117, 116, 101, 114, 32, 84]⟩ := by kernel_rfl
theorem cmp_AB : node_Compare.f 60 1 3 ⟨#[84]⟩ 2 0 ⟨#[84]⟩ = some (-1) := by kernel_rfl
theorem nd_row (W : World) (l : List Nd) (hl : l.length ≤ 9223372036854775807) : Kd.C k24 (W.alloc (.cells (ndCs l).toArray 24)) (some ⟨W.heap.size, 0, none⟩) l.length l :=
 (Kd.R_reads' (lit_R k24 (W := W) W.heap.size 24 (xs := l) (inner := ndCs l) (ok := fun _ => True) (okp := fun _ => True) (reps_nd _ _ _ l) (fun _ h => h) trivial (Nat.le_refl _) hl)).2.2
theorem rTU_row (w : World) : Kd.C k28 ((w.alloc (.cells #[.string ⟨#[110]⟩, .string ⟨#[105, 110, 116]⟩, .string ⟨#[117]⟩, .string ⟨#[42, 85]⟩] 64)).alloc (.cells #[.string ⟨#[84]⟩, .slice (some ⟨w.heap.size, 0, none⟩) 2 2, .string ⟨#[85]⟩, .slice none 0 0] 28)) (some ⟨w.heap.size + 1, 0, none⟩) 2 [rT, rU] := by
 have hf := lit_R k64 (W := w) w.heap.size 64 (xs := rT.f1) (inner := [.string ⟨#[110]⟩, .string ⟨#[105, 110, 116]⟩, .string ⟨#[117]⟩, .string ⟨#[42, 85]⟩]) (ok := fun _ => True) (okp := fun _ => True) (Reps.c2 ⟨[.string ⟨#[110]⟩], [.string ⟨#[105, 110, 116]⟩], rfl, rfl, rfl⟩ (Reps.c2 ⟨[.string ⟨#[117]⟩], [.string ⟨#[42, 85]⟩], rfl, rfl, rfl⟩ (Reps.none _ _))) (fun _ h => h) trivial (Nat.le_refl _) (by decide)
 have e1 : (w.alloc (.cells #[.string ⟨#[110]⟩, .string ⟨#[105, 110, 116]⟩, .string ⟨#[117]⟩, .string ⟨#[42, 85]⟩] 64)).heap.size = w.heap.size + 1 := World.size_alloc _ _
 have hs := lit_R k28 (W := w.alloc (.cells #[.string ⟨#[110]⟩, .string ⟨#[105, 110, 116]⟩, .string ⟨#[117]⟩, .string ⟨#[42, 85]⟩] 64)) w.heap.size 28 (xs := [rT, rU]) (inner := [.string ⟨#[84]⟩, .slice (some ⟨w.heap.size, 0, none⟩) 2 2, .string ⟨#[85]⟩, .slice none 0 0]) (ok := fun _ => True) (okp := fun _ => True) (Reps.c2 (k28_mkM _ _ _ rT hf) (Reps.c2 (k28_mkM _ _ _ rU (Kd.R_nil _ _ _ _ _)) (Reps.none _ _))) (fun _ h => h) trivial (by omega) (by decide)
 rw [e1] at hs
 exact (Kd.R_reads' hs).2.2
theorem wf_A : ∀ x ∈ [nA], ndW x := fun x hx => by rw [List.mem_singleton.mp hx]; exact nA_wf
theorem aw_len2 (m : Option Nat) (w : World) (h : SetO w m [nA, nB]) : Calls Tryd.prog 26 #[.agg #[.map m]] w fun e w' => e = .returned (.int .i64 2) ∧ Below w.heap.size w w' := set_Len m [nA, nB] w h
theorem aw_len0 (m : Option Nat) (w : World) (h : SetO w m []) : Calls Tryd.prog 26 #[.agg #[.map m]] w fun e w' => e = .returned (.int .i64 0) ∧ Below w.heap.size w w' := set_Len m [] w h
theorem aw_hasB (m : Option Nat) (w : World) (h : SetO w m [nA, nB]) : Calls Tryd.prog 25 #[.agg #[.map m], .agg #[.int .i64 2, .int .i64 0, .string ⟨#[84]⟩]] w fun e w' => e = .returned (.bool true) ∧ Below w.heap.size w w' :=
 (set_Has m [nA, nB] nB w h nB_wf).mono fun _ _ h => ⟨by rw [h.1, decB_true (by simp)], h.2⟩
theorem nA_ne : nB ≠ nA := fun h => by
 have : nB.f0 = nA.f0 := by rw [h]
 exact absurd this (by decide)
theorem aw_hasnB (m : Option Nat) (w : World) (h : SetO w m [nA]) : Calls Tryd.prog 25 #[.agg #[.map m], .agg #[.int .i64 2, .int .i64 0, .string ⟨#[84]⟩]] w fun e w' => e = .returned (.bool false) ∧ Below w.heap.size w w' :=
 (set_Has m [nA] nB w h nB_wf).mono fun _ _ h => ⟨by rw [h.1, decB_false (fun h => nA_ne (List.mem_singleton.mp h))], h.2⟩
theorem aw_in (m n : Option Nat) (w : World) (h : SetO w m [nA]) (h2 : SetO w n [nA, nB]) : Calls Tryd.prog 23 #[.agg #[.map m], .agg #[.map n]] w fun e w' => e = .returned (.bool true) ∧ Below w.heap.size w w' :=
 (set_Within m n [nA] [nA, nB] w h h2).mono fun _ _ h => ⟨by rw [h.1, decB_true (fun x hx => by rw [List.mem_singleton.mp hx]; simp)], h.2⟩
theorem aw_nin (m n : Option Nat) (w : World) (h : SetO w m [nA, nB]) (h2 : SetO w n [nA]) : Calls Tryd.prog 23 #[.agg #[.map m], .agg #[.map n]] w fun e w' => e = .returned (.bool false) ∧ Below w.heap.size w w' :=
 (set_Within m n [nA, nB] [nA] w h h2).mono fun _ _ h => ⟨by rw [h.1, decB_false (fun h => nA_ne (List.mem_singleton.mp (h nB (by simp))))], h.2⟩
theorem typed_U : typedL ⟨#[85]⟩ [nA, nB] = [] := by kernel_rfl
theorem aw_typed (m : Option Nat) (w : World) (h : SetO w m [nA, nB]) : Calls Tryd.prog 24 #[.agg #[.map m], .string ⟨#[85]⟩] w fun e w' => ∃ b, e = .returned (.agg #[.map (some b)]) ∧ SetO w' (some b) [] ∧ Below w.heap.size w w' :=
 (set_Typed m [nA, nB] ⟨#[85]⟩ w h (by decide)).mono fun _ _ ⟨b, h1, _, h3, h4⟩ => ⟨b, h1, by rw [typed_U] at h3; exact h3, h4⟩
def truantlaw18_awake.f : Option (Bool) := some true
def truantlaw18_awake.T6 : Bool × List (List Nat × List Nat) := (true, [([], []), ([], []), ([0, 1], [0, 1]), ([2], [2]), ([3, 2], [3]), ([4], [4]), ([5, 4, 4], [4, 5]), ([6, 4], [4, 6]), ([4, 7], [4, 7]), ([8, 6], [8]), ([9], [9]), ([10, 9, 9], [9, 10]), ([11, 9], [9, 11]), ([9, 12], [9, 12]), ([13, 11], [13]), ([14], [14]), ([15, 14, 14], [14, 15]), ([16, 14], [14, 16]), ([14, 17], [14, 17]), ([18, 16], [18]), ([19], [19]), ([20, 19], [19, 20]), ([21, 19], [19, 21]), ([19, 22], [19, 22]), ([23, 19], [23]), ([24], [24]), ([25, 24], [24, 25]), ([26, 24], [24, 26]), ([24], [24]), ([27, 28, 24], [24, 27, 28]), ([24, 29], [24, 29]), ([30, 24], [30]), ([31], [31]), ([31], [31]), ([32, 33, 31, 31], [31, 32, 33]), ([31, 34], [31, 34]), ([35, 34], [35]), ([36], [36]), ([37, 36], [36, 37]), ([38, 36, 36], [36, 38]), ([36], [36]), ([39, 40, 39, 36], [36, 39, 40]), ([41, 36], [36, 41]), ([36, 42], [36, 42]), ([43, 41], [43]), ([44], [44]), ([45, 44], [44, 45]), ([46, 44, 44], [44, 46]), ([44], [44]), ([47, 48, 47, 44], [44, 47, 48]), ([44, 49], [44, 49]), ([50, 49], [50]), ([51], [51]), ([51], [51]), ([53, 51], [51, 53]), ([54, 51, 51], [51, 54]), ([52, 55, 55, 51], [51, 52, 55]), ([56, 51], [51, 56]), ([51, 57], [51, 57]), ([58, 56], [58]), ([59], [59]), ([60, 59, 59], [59, 60]), ([61, 61, 59], [59, 61]), ([62, 59], [59, 62]), ([59, 63], [59, 63]), ([64, 62], [64]), ([65], [65]), ([66, 65], [65, 66]), ([67, 65], [65, 67]), ([65, 68], [65, 68]), ([69, 65], [69]), ([70], [70]), ([71, 70], [70, 71]), ([72, 70], [70, 72]), ([70], [70]), ([70], [70]), ([74, 75, 70], [70, 74, 75]), ([73, 76, 70], [70, 73, 76]), ([70, 77], [70, 77]), ([78, 70], [78]), ([79], [79]), ([80, 79, 79], [79, 80]), ([81, 79], [79, 81]), ([82, 79], [79, 82]), ([79, 83], [79, 83]), ([84, 81, 0, 1, 2, 3, 4, 5, 6, 7, 8, 9, 10, 11, 12, 13, 14, 15, 16, 17, 18, 19, 20, 21, 22, 23, 24, 25, 26, 27, 28, 29, 30, 31, 32, 33, 34, 35, 36, 37, 38, 39, 40, 41, 42, 43, 44, 45, 46, 47, 48, 49, 50, 51, 52, 53, 54, 55, 56, 57, 58, 59, 60, 61, 62, 63, 64, 65, 66, 67, 68, 69, 70, 71, 72, 73, 74, 75, 76, 77, 78, 79, 80, 81, 82, 83, 84], [84])])
def truantlaw18_awake.B6 : List Nat := [0, 0, 3, 7, 15, 31, 63, 127, 255, 511, 1023, 2047, 4095, 8191, 16383, 32767, 65535, 131071, 262143, 524287, 1048575, 2097151, 4194303, 8388607, 16777215, 33554431, 67108863, 134217727, 33554431, 536870911, 1073741823, 2147483647, 4294967295, 4294967295, 17179869183, 34359738367, 68719476735, 137438953471, 274877906943, 549755813887, 137438953471, 2199023255551, 4398046511103, 8796093022207, 17592186044415, 35184372088831, 70368744177663, 140737488355327, 35184372088831, 562949953421311, 1125899906842623, 2251799813685247, 4503599627370495, 4503599627370495, 13510798882111487, 31525197391593471, 72057594037927935, 144115188075855871, 288230376151711743, 576460752303423487, 1152921504606846975, 2305843009213693951, 4611686018427387903, 9223372036854775807, 18446744073709551615, 36893488147419103231, 73786976294838206463, 147573952589676412927, 295147905179352825855, 590295810358705651711, 1180591620717411303423, 2361183241434822606847, 4722366482869645213695, 9444732965739290427391, 2361183241434822606847, 2361183241434822606847, 59029581035870565171199, 151115727451828646838271, 302231454903657293676543, 604462909807314587353087, 1208925819614629174706175, 2417851639229258349412351, 4835703278458516698824703, 9671406556917033397649407, 19342813113834066795298815, 38685626227668133590597631]
theorem truantlaw18_awake.tab6 : rtab .any (opsOf Tryd.f7 6) = truantlaw18_awake.T6 := by kernel_rfl
theorem truantlaw18_awake.bits6 : waitsOk truantlaw18_awake.T6.2 truantlaw18_awake.B6 = true := by kernel_rfl
set_option maxRecDepth 100000 in
set_option maxHeartbeats 8000000 in
theorem truantlaw18_awake.calls (r : Bool) (w : World) (h : truantlaw18_awake.f = some r) (hG : Glob w := by first | assumption | (refine Glob.below (by assumption) ?_; repeat (first | with_reducible exact (Aside0.out (by assumption)) | (refine below_set ?_ (Aside0.out (by assumption))) | (with_reducible first | apply below_alloc | apply pw_below_drewN | apply below_drew1) | exact (Aside0.out (by assumption))))) :
  Calls Tryd.prog 7 #[] w fun e w' => e = .returned (.bool r) ∧ Below w.heap.size w w' := by
 obtain rfl := Option.some.inj h
 clear h
 have HG := Aside0.mk hG; clear hG
 go_enter Tryd.func7, Tryd.ntmps7
 go_upto_region 3 with (fail)
 have H1 : Aside0 (((w.alloc (.cells #[.int .i64 1, .int .i64 3, .string ⟨#[84]⟩] 24)).alloc (.cells #[.int .i64 2, .int .i64 0, .string ⟨#[84]⟩] 24)).heap[w.heap.size]? = some (.cells #[.int .i64 1, .int .i64 3, .string ⟨#[84]⟩] 24 (0, 0))) := ⟨blk_alloc (blk_new _ _) _⟩
 have H2 : Aside0 (((w.alloc (.cells #[.int .i64 1, .int .i64 3, .string ⟨#[84]⟩] 24)).alloc (.cells #[.int .i64 2, .int .i64 0, .string ⟨#[84]⟩] 24)).heap[w.heap.size + 1]? = some (.cells #[.int .i64 2, .int .i64 0, .string ⟨#[84]⟩] 24 (0, 0))) := ⟨by
  have := blk_new (w.alloc (.cells #[.int .i64 1, .int .i64 3, .string ⟨#[84]⟩] 24)) (.cells #[.int .i64 2, .int .i64 0, .string ⟨#[84]⟩] 24)
  rw [World.size_alloc] at this
  exact this⟩
 have HB : Aside0 (Below w.heap.size w ((w.alloc (.cells #[.int .i64 1, .int .i64 3, .string ⟨#[84]⟩] 24)).alloc (.cells #[.int .i64 2, .int .i64 0, .string ⟨#[84]⟩] 24))) := ⟨below_alloc (below_alloc (Below.refl _ _) _) _⟩
 generalize (w.alloc (.cells #[.int .i64 1, .int .i64 3, .string ⟨#[84]⟩] 24)).alloc (.cells #[.int .i64 2, .int .i64 0, .string ⟨#[84]⟩] 24) = w1 at H1 H2 HB ⊢
 generalize w.heap.size + 1 = g2 at H2 ⊢
 obtain ⟨g1, hg1⟩ : ∃ g, g = w.heap.size := ⟨_, rfl⟩
 rw [← hg1] at H1 ⊢
 clear hg1
 have h1 := bk3 H1.out; have h2 := bk3 H2.out
 go_wp2_with fail
 clear h1 h2
 refine (node_Of (some ⟨w1.heap.size, 0, none⟩) 3 [nB, nA, nB] _ (nd_row w1 [nB, nA, nB] (by decide)) (Nat.le_refl _) (fun x hx => by
  have h : x = nB ∨ x = nA ∨ x = nB := by simpa using hx
  rcases h with rfl | rfl | rfl
  ·exact nB_wf
  ·exact nA_wf
  ·exact nB_wf) (by decide)).mono ?_
 rintro e w2 ⟨b, rfl, hb1, hs, hb2⟩
 rw [ofL_BAB] at hs
 have hbl : Below w1.heap.size w1 (w2.alloc (.cells #[.map (some b)] 50)) := below_alloc (below_step (below_alloc (Below.refl _ _) _) hb2) _
 have H13 := Aside0.mk (blk_below H1.out hbl); have H23 := Aside0.mk (blk_below H2.out hbl)
 have HB3 := Aside0.mk (below_step HB.out hbl)
 have HS3 : Aside0 (SetO (w2.alloc (.cells #[.map (some b)] 50)) (some b) [nA, nB]) := ⟨hs.alloc _⟩
 have H33 : Aside0 ((w2.alloc (.cells #[.map (some b)] 50)).heap[w2.heap.size]? = some (.cells #[.map (some b)] 50 (0, 0))) := ⟨blk_new _ _⟩
 clear hb1 hs hb2 hbl H1 H2 HB
 go_upto_region 4 with (fail)
 generalize w2.alloc (.cells #[.map (some b)] 50) = w3 at H13 H23 HB3 HS3 H33 ⊢
 generalize w2.heap.size = g3 at H33 ⊢
 have h3 := bk1 H33.out
 go_wp2_with fail
 clear h3
 refine (set_List (some b) [nA, nB] w3 HS3.out (by decide)).mono ?_
 rintro e w4 ⟨v4, rfl, hr4, hb4⟩
 obtain ⟨A4, c4, e4⟩ := Kd.R_slice hr4
 subst e4
 have HL4 := Aside0.mk (Kd.R_reads' hr4).2.2
 have HLC := Aside0.mk (Kd.R_reads' hr4).2.1
 have H14 := Aside0.mk (blk_below H13.out hb4); have H24 := Aside0.mk (blk_below H23.out hb4); have H34 := Aside0.mk (blk_below H33.out hb4)
 have HB4 := Aside0.mk (below_step HB3.out hb4); have HS4 := Aside0.mk (HS3.out.below hb4)
 clear hr4 hb4 H13 H23 H33 HB3 HS3
 have e1 : (w4.alloc (.cells #[.string ⟨#[110]⟩, .string ⟨#[105, 110, 116]⟩, .string ⟨#[117]⟩, .string ⟨#[42, 85]⟩] 64)).heap.size = w4.heap.size + 1 := World.size_alloc _ _
 have h2 := bk3 (blk_alloc (blk_alloc H24.out (.cells #[.string ⟨#[110]⟩, .string ⟨#[105, 110, 116]⟩, .string ⟨#[117]⟩, .string ⟨#[42, 85]⟩] 64)) (.cells #[.string ⟨#[84]⟩, .slice (some ⟨w4.heap.size, 0, none⟩) 2 2, .string ⟨#[85]⟩, .slice none 0 0] 28))
 go_wp2_with fail
 clear h2 e1
 refine (node_First.calls 60 (some ⟨w4.heap.size + 1, 0, none⟩) 2 [rT, rU] 2 0 ⟨#[84]⟩ [eB] _ (rTU_row w4) (Nat.le_refl _) first_B).mono ?_
 rintro e w5 ⟨v5, rfl, hr5, hb5⟩
 have hbl : Below w4.heap.size w4 w5 := below_step (below_alloc (below_alloc (Below.refl _ _) _) _) hb5
 have H15 := Aside0.mk (blk_below H14.out hbl); have H25 := Aside0.mk (blk_below H24.out hbl); have H35 := Aside0.mk (blk_below H34.out hbl)
 have HB5 := Aside0.mk (below_step HB4.out hbl); have HS5 := Aside0.mk (HS4.out.below hbl); have HL5 := Aside0.mk (Kd.C_below HL4.out hbl)
 have HG5 := Aside0.mk (HG.out.below HB5.out)
 obtain ⟨A5, c5, e5⟩ := Kd.R_slice hr5
 subst e5
 have HE5 := Aside0.mk (Kd.R_reads' hr5).2.2
 clear hr5 hb5 hbl H14 H24 H34 HB4 HS4 HL4 HG
 obtain ⟨ad4, e4, _⟩ := at_T24 HL5.out 0 (by decide) (by decide)
 subst e4
 obtain ⟨ad5, e5, _⟩ := at_T40 HE5.out 0 (by decide) (by decide)
 subst e5
 have HC4 : Aside0 (∀ w', Below w5.heap.size w5 w' → w'.cell? ad4 = some (.int .i64 1) ∧ w'.cell? ⟨ad4.block, ad4.off + 1, none⟩ = some (.int .i64 3) ∧ w'.cell? ⟨ad4.block, ad4.off + 2, none⟩ = some (.string ⟨#[84]⟩)) := ⟨fun w' hb => by
  obtain ⟨ad, e, h0, h1, h2⟩ := at_T24 (Kd.C_below HL5.out hb) 0 (by decide) (by decide)
  cases e
  exact ⟨h0, h1, h2⟩⟩
 have HC5 : Aside0 (∀ w', Below w5.heap.size w5 w' → w'.cell? ad5 = some (.int .i64 2) ∧ w'.cell? ⟨ad5.block, ad5.off + 1, none⟩ = some (.int .i64 0) ∧ w'.cell? ⟨ad5.block, ad5.off + 2, none⟩ = some (.string ⟨#[84]⟩) ∧ w'.cell? ⟨ad5.block, ad5.off + 3, none⟩ = some (.int .i64 1) ∧ w'.cell? ⟨ad5.block, ad5.off + 4, none⟩ = some (.int .i64 2) ∧ w'.cell? ⟨ad5.block, ad5.off + 5, none⟩ = some (.int .i64 0) ∧ w'.cell? ⟨ad5.block, ad5.off + 6, none⟩ = some (.string ⟨#[85]⟩)) := ⟨fun w' hb => by
  obtain ⟨ad, e, h0, h1, h2, h3, h4, h5, h6⟩ := at_T40 (Kd.C_below HE5.out hb) 0 (by decide) (by decide)
  cases e
  exact ⟨h0, h1, h2, h3, h4, h5, h6⟩⟩
 go_upto_region 6 with (fail)
 refine start_ (n := 86) (S := fun w' => Below w5.heap.size w5 w') (ds := []) (tf 0 86) (by kernel_rfl) rfl rfl ((below_drew1 (Below.refl _ _))) (fun hHeld => ?_)
 refine with_tabW truantlaw18_awake.tab6 truantlaw18_awake.bits6 (fun HT_ HW_ => ?_)
 refine take_ (i := 0) (N := some 23) (v := ?_) (a' := ?_) (tf 1 85) rfl rfl (take_ofW HT_.out HW_.out (by kernel_rfl)) (fun _ _ _ h => h) (Or.inl ⟨by rfl, ?_⟩) hHeld ?_ ?_
 rotate_left
 ·intro w' s0
  obtain ⟨x0, x1, x2, _, _, _⟩ := bk3 (blk_below H15.out s0)
  go_simp
  with_reducible rfl
 rotate_left
 ·simp only [Act.put, List.setIfInBounds_toArray, List.set_cons_zero, List.set_cons_succ, i64_w, i32_w]
  rfl
 refine take_ (i := 1) (N := some 24) (v := ?_) (a' := ?_) (tf 2 84) rfl rfl (take_ofW HT_.out HW_.out (by kernel_rfl)) (fun _ _ _ h => h) (Or.inl ⟨by rfl, ?_⟩) hHeld ?_ ?_
 rotate_left
 ·intro w' s0
  obtain ⟨x0, x1, x2, _, _, _⟩ := bk3 (blk_below H25.out s0)
  go_simp
  with_reducible rfl
 rotate_left
 ·simp only [Act.put, List.setIfInBounds_toArray, List.set_cons_zero, List.set_cons_succ, i64_w, i32_w]
  rfl
 refine one_ (i := 2) (N := some 25) (tf 3 83) rfl rfl (one_of HT_.out (by kernel_rfl)) (by decide) (fun K hK => ?_)
 refine goes_ Tryd.func12 (by kernel_rfl) rfl #[.agg #[.int .i64 1, .int .i64 3, .string ⟨#[84]⟩], .agg #[.int .i64 2, .int .i64 0, .string ⟨#[84]⟩]] (by rfl) rfl rfl (by simp only [List.map_toArray, List.map_cons, List.map_nil]; rfl) ?_
 refine (node_Compare.calls 60 _ _ _ _ _ _ (-1) _ cmp_AB).mono ?_
 rintro e w902 ⟨rfl, hb⟩
 refine ⟨_, rfl, ?_⟩
 refine hK.out _ _ (below_step hHeld hb) (fun hHeld => ?_)
 clear hK K
 refine norm_ (a' := ?_) ?_ ?_
 rotate_left
 ·show Act.put _ (some 25) _ = _
  simp only [Act.put, List.setIfInBounds_toArray, List.set_cons_zero, List.set_cons_succ, i64_w, i32_w]
  rfl
 refine pure_ (i := 3) (N := some 26) (v := ?_) (a' := ?_) (tf 4 82) rfl rfl (any_of HT_.out (by kernel_rfl)) (fun _ _ _ h => h) (Or.inl ⟨by rfl, ?_⟩) ?_ ?_
 rotate_left
 ·intro w'
  go_simp
  with_reducible rfl
 rotate_left
 ·simp only [Act.put, List.setIfInBounds_toArray, List.set_cons_zero, List.set_cons_succ, i64_w, i32_w]
  rfl
 refine pure_ (i := 4) (N := some 27) (v := ?_) (a' := ?_) (tf 5 81) rfl rfl (any_of HT_.out (by kernel_rfl)) (fun _ _ _ h => h) (Or.inl ⟨by rfl, ?_⟩) ?_ ?_
 rotate_left
 ·intro w'
  go_simp
  with_reducible rfl
 rotate_left
 ·simp only [Act.put, List.setIfInBounds_toArray, List.set_cons_zero, List.set_cons_succ, i64_w, i32_w]
  rfl
 refine take_ (i := 5) (N := some 28) (v := ?_) (a' := ?_) (tf 6 80) rfl rfl (take_ofW HT_.out HW_.out (by kernel_rfl)) (fun _ _ _ h => h) (Or.inl ⟨by rfl, ?_⟩) hHeld ?_ ?_
 rotate_left
 ·intro w' s0
  obtain ⟨x0, x1, x2, _, _, _⟩ := bk3 (blk_below H15.out s0)
  go_simp
  with_reducible rfl
 rotate_left
 ·simp only [Act.put, List.setIfInBounds_toArray, List.set_cons_zero, List.set_cons_succ, i64_w, i32_w]
  rfl
 refine one_ (i := 6) (N := some 29) (tf 7 79) rfl rfl (one_of HT_.out (by kernel_rfl)) (by decide) (fun K hK => ?_)
 refine goes_ Tryd.func13 (by kernel_rfl) rfl #[.agg #[.int .i64 1, .int .i64 3, .string ⟨#[84]⟩]] (by rfl) rfl rfl (by simp only [List.map_toArray, List.map_cons, List.map_nil]; rfl) ?_
 refine (node_Text.calls 60 _ _ _ _ _ text_A (HG5.out.below hHeld)).mono ?_
 rintro e w906 ⟨rfl, hb⟩
 refine ⟨_, rfl, ?_⟩
 refine hK.out _ _ (below_step hHeld hb) (fun hHeld => ?_)
 clear hK K
 refine norm_ (a' := ?_) ?_ ?_
 rotate_left
 ·show Act.put _ (some 29) _ = _
  simp only [Act.put, List.setIfInBounds_toArray, List.set_cons_zero, List.set_cons_succ, i64_w, i32_w]
  rfl
 refine pure_ (i := 7) (N := some 30) (v := ?_) (a' := ?_) (tf 8 78) rfl rfl (any_of HT_.out (by kernel_rfl)) (fun _ _ _ h => h) (Or.inl ⟨by rfl, ?_⟩) ?_ ?_
 rotate_left
 ·intro w'
  go_simp
  with_reducible rfl
 rotate_left
 ·simp only [Act.put, List.setIfInBounds_toArray, List.set_cons_zero, List.set_cons_succ, i64_w, i32_w]
  rfl
 refine pure_ (i := 8) (N := some 31) (v := ?_) (a' := ?_) (tf 9 77) rfl rfl (any_of HT_.out (by kernel_rfl)) (fun _ _ _ h => h) (Or.inl ⟨by rfl, ?_⟩) ?_ ?_
 rotate_left
 ·intro w'
  go_simp
  with_reducible rfl
 rotate_left
 ·simp only [Act.put, List.setIfInBounds_toArray, List.set_cons_zero, List.set_cons_succ, i64_w, i32_w]
  rfl
 refine pure_ (i := 9) (N := some 32) (v := ?_) (a' := ?_) (tf 10 76) rfl rfl (any_of HT_.out (by kernel_rfl)) (fun _ _ _ h => h) (Or.inl ⟨by rfl, ?_⟩) ?_ ?_
 rotate_left
 ·intro w'
  go_simp
  with_reducible rfl
 rotate_left
 ·simp only [Act.put, List.setIfInBounds_toArray, List.set_cons_zero, List.set_cons_succ, i64_w, i32_w]
  rfl
 refine take_ (i := 10) (N := some 33) (v := ?_) (a' := ?_) (tf 11 75) rfl rfl (take_ofW HT_.out HW_.out (by kernel_rfl)) (fun _ _ _ h => h) (Or.inl ⟨by rfl, ?_⟩) hHeld ?_ ?_
 rotate_left
 ·intro w' s0
  obtain ⟨x0, x1, x2, _, _, _⟩ := bk3 (blk_below H25.out s0)
  go_simp
  with_reducible rfl
 rotate_left
 ·simp only [Act.put, List.setIfInBounds_toArray, List.set_cons_zero, List.set_cons_succ, i64_w, i32_w]
  rfl
 refine one_ (i := 11) (N := some 34) (tf 12 74) rfl rfl (one_of HT_.out (by kernel_rfl)) (by decide) (fun K hK => ?_)
 refine goes_ Tryd.func13 (by kernel_rfl) rfl #[.agg #[.int .i64 2, .int .i64 0, .string ⟨#[84]⟩]] (by rfl) rfl rfl (by simp only [List.map_toArray, List.map_cons, List.map_nil]; rfl) ?_
 refine (node_Text.calls 60 _ _ _ _ _ text_B (HG5.out.below hHeld)).mono ?_
 rintro e w911 ⟨rfl, hb⟩
 refine ⟨_, rfl, ?_⟩
 refine hK.out _ _ (below_step hHeld hb) (fun hHeld => ?_)
 clear hK K
 refine norm_ (a' := ?_) ?_ ?_
 rotate_left
 ·show Act.put _ (some 34) _ = _
  simp only [Act.put, List.setIfInBounds_toArray, List.set_cons_zero, List.set_cons_succ, i64_w, i32_w]
  rfl
 refine pure_ (i := 12) (N := some 35) (v := ?_) (a' := ?_) (tf 13 73) rfl rfl (any_of HT_.out (by kernel_rfl)) (fun _ _ _ h => h) (Or.inl ⟨by rfl, ?_⟩) ?_ ?_
 rotate_left
 ·intro w'
  go_simp
  with_reducible rfl
 rotate_left
 ·simp only [Act.put, List.setIfInBounds_toArray, List.set_cons_zero, List.set_cons_succ, i64_w, i32_w]
  rfl
 refine pure_ (i := 13) (N := some 36) (v := ?_) (a' := ?_) (tf 14 72) rfl rfl (any_of HT_.out (by kernel_rfl)) (fun _ _ _ h => h) (Or.inl ⟨by rfl, ?_⟩) ?_ ?_
 rotate_left
 ·intro w'
  go_simp
  with_reducible rfl
 rotate_left
 ·simp only [Act.put, List.setIfInBounds_toArray, List.set_cons_zero, List.set_cons_succ, i64_w, i32_w]
  rfl
 refine pure_ (i := 14) (N := some 37) (v := ?_) (a' := ?_) (tf 15 71) rfl rfl (any_of HT_.out (by kernel_rfl)) (fun _ _ _ h => h) (Or.inl ⟨by rfl, ?_⟩) ?_ ?_
 rotate_left
 ·intro w'
  go_simp
  with_reducible rfl
 rotate_left
 ·simp only [Act.put, List.setIfInBounds_toArray, List.set_cons_zero, List.set_cons_succ, i64_w, i32_w]
  rfl
 refine take_ (i := 15) (N := some 38) (v := ?_) (a' := ?_) (tf 16 70) rfl rfl (take_ofW HT_.out HW_.out (by kernel_rfl)) (fun _ _ _ h => h) (Or.inl ⟨by rfl, ?_⟩) hHeld ?_ ?_
 rotate_left
 ·intro w' s0
  obtain ⟨x0, _⟩ := bk1 (blk_below H35.out s0)
  go_simp
  with_reducible rfl
 rotate_left
 ·simp only [Act.put, List.setIfInBounds_toArray, List.set_cons_zero, List.set_cons_succ, i64_w, i32_w]
  rfl
 refine one_ (i := 16) (N := some 39) (tf 17 69) rfl rfl (one_of HT_.out (by kernel_rfl)) (by decide) (fun K hK => ?_)
 refine goes_ Tryd.func26 (by kernel_rfl) rfl #[.agg #[.map (some b)]] (by rfl) rfl rfl (by simp only [List.map_toArray, List.map_cons, List.map_nil]; rfl) ?_
 refine (aw_len2 (some b) _ (HS5.out.below hHeld)).mono ?_
 rintro e w916 ⟨rfl, hb⟩
 refine ⟨_, rfl, ?_⟩
 refine hK.out _ _ (below_step hHeld hb) (fun hHeld => ?_)
 clear hK K
 refine norm_ (a' := ?_) ?_ ?_
 rotate_left
 ·show Act.put _ (some 39) _ = _
  simp only [Act.put, List.setIfInBounds_toArray, List.set_cons_zero, List.set_cons_succ, i64_w, i32_w]
  rfl
 refine pure_ (i := 17) (N := some 40) (v := ?_) (a' := ?_) (tf 18 68) rfl rfl (any_of HT_.out (by kernel_rfl)) (fun _ _ _ h => h) (Or.inl ⟨by rfl, ?_⟩) ?_ ?_
 rotate_left
 ·intro w'
  go_simp
  with_reducible rfl
 rotate_left
 ·simp only [Act.put, List.setIfInBounds_toArray, List.set_cons_zero, List.set_cons_succ, i64_w, i32_w]
  rfl
 refine pure_ (i := 18) (N := some 41) (v := ?_) (a' := ?_) (tf 19 67) rfl rfl (any_of HT_.out (by kernel_rfl)) (fun _ _ _ h => h) (Or.inl ⟨by rfl, ?_⟩) ?_ ?_
 rotate_left
 ·intro w'
  go_simp
  with_reducible rfl
 rotate_left
 ·simp only [Act.put, List.setIfInBounds_toArray, List.set_cons_zero, List.set_cons_succ, i64_w, i32_w]
  rfl
 refine pure_ (i := 19) (N := some 42) (v := ?_) (a' := ?_) (tf 20 66) rfl rfl (any_of HT_.out (by kernel_rfl)) (fun _ _ _ h => h) (Or.inl ⟨by rfl, ?_⟩) ?_ ?_
 rotate_left
 ·intro w'
  go_simp
  with_reducible rfl
 rotate_left
 ·simp only [Act.put, List.setIfInBounds_toArray, List.set_cons_zero, List.set_cons_succ, i64_w, i32_w]
  rfl
 refine pure_ (i := 20) (N := some 43) (v := ?_) (a' := ?_) (tf 21 65) rfl rfl (any_of HT_.out (by kernel_rfl)) (fun _ _ _ h => h) (Or.inl ⟨by rfl, ?_⟩) ?_ ?_
 rotate_left
 ·intro w'
  go_simp
  with_reducible rfl
 rotate_left
 ·simp only [Act.put, List.setIfInBounds_toArray, List.set_cons_zero, List.set_cons_succ, i64_w, i32_w]
  rfl
 refine pure_ (i := 21) (N := some 44) (v := ?_) (a' := ?_) (tf 22 64) rfl rfl (any_of HT_.out (by kernel_rfl)) (fun _ _ _ h => h) (Or.inl ⟨by rfl, ?_⟩) ?_ ?_
 rotate_left
 ·intro w'
  go_simp
  with_reducible rfl
 rotate_left
 ·simp only [Act.put, List.setIfInBounds_toArray, List.set_cons_zero, List.set_cons_succ, i64_w, i32_w]
  rfl
 refine pure_ (i := 22) (N := some 45) (v := ?_) (a' := ?_) (tf 23 63) rfl rfl (any_of HT_.out (by kernel_rfl)) (fun _ _ _ h => h) (Or.inl ⟨by rfl, ?_⟩) ?_ ?_
 rotate_left
 ·intro w'
  go_simp
  with_reducible rfl
 rotate_left
 ·simp only [Act.put, List.setIfInBounds_toArray, List.set_cons_zero, List.set_cons_succ, i64_w, i32_w]
  rfl
 refine pure_ (i := 23) (N := some 46) (v := ?_) (a' := ?_) (tf 24 62) rfl rfl (any_of HT_.out (by kernel_rfl)) (fun _ _ _ h => h) (Or.inl ⟨by rfl, ?_⟩) ?_ ?_
 rotate_left
 ·intro w'
  go_simp
  with_reducible rfl
 rotate_left
 ·simp only [Act.put, List.setIfInBounds_toArray, List.set_cons_zero, List.set_cons_succ, i64_w, i32_w]
  rfl
 refine pure_ (i := 24) (N := some 47) (v := ?_) (a' := ?_) (tf 25 61) rfl rfl (any_of HT_.out (by kernel_rfl)) (fun _ _ _ h => h) (Or.inl ⟨by rfl, ?_⟩) ?_ ?_
 rotate_left
 ·intro w'
  go_simp
  with_reducible rfl
 rotate_left
 ·simp only [Act.put, List.setIfInBounds_toArray, List.set_cons_zero, List.set_cons_succ, i64_w, i32_w]
  rfl
 refine pure_ (i := 25) (N := some 48) (v := ?_) (a' := ?_) (tf 26 60) rfl rfl (any_of HT_.out (by kernel_rfl)) (fun _ _ _ h => h) (Or.inl ⟨by rfl, ?_⟩) ?_ ?_
 rotate_left
 ·intro w'
  go_simp
  with_reducible rfl
 rotate_left
 ·simp only [Act.put, List.setIfInBounds_toArray, List.set_cons_zero, List.set_cons_succ, i64_w, i32_w]
  rfl
 refine pure_ (i := 26) (N := some 49) (v := ?_) (a' := ?_) (tf 27 59) rfl rfl (any_of HT_.out (by kernel_rfl)) (fun _ _ _ h => h) (Or.inl ⟨by rfl, ?_⟩) ?_ ?_
 rotate_left
 ·intro w'
  go_simp
  with_reducible rfl
 rotate_left
 ·simp only [Act.put, List.setIfInBounds_toArray, List.set_cons_zero, List.set_cons_succ, i64_w, i32_w]
  rfl
 refine take_ (i := 27) (N := some 50) (v := ?_) (a' := ?_) (tf 28 58) rfl rfl (take_ofW HT_.out HW_.out (by kernel_rfl)) (fun _ _ _ h => h) (Or.inl ⟨by rfl, ?_⟩) hHeld ?_ ?_
 rotate_left
 ·intro w' s0
  obtain ⟨x0, x1, x2⟩ := HC4.out w' s0
  go_simp
  with_reducible rfl
 rotate_left
 ·simp only [Act.put, List.setIfInBounds_toArray, List.set_cons_zero, List.set_cons_succ, i64_w, i32_w]
  rfl
 refine take_ (i := 28) (N := some 51) (v := ?_) (a' := ?_) (tf 29 57) rfl rfl (take_ofW HT_.out HW_.out (by kernel_rfl)) (fun _ _ _ h => h) (Or.inl ⟨by rfl, ?_⟩) hHeld ?_ ?_
 rotate_left
 ·intro w' s0
  obtain ⟨x0, x1, x2, _, _, _⟩ := bk3 (blk_below H15.out s0)
  go_simp
  with_reducible rfl
 rotate_left
 ·simp only [Act.put, List.setIfInBounds_toArray, List.set_cons_zero, List.set_cons_succ, i64_w, i32_w]
  rfl
 refine pure_ (i := 29) (N := some 52) (v := ?_) (a' := ?_) (tf 30 56) rfl rfl (any_of HT_.out (by kernel_rfl)) (fun _ _ _ h => h) (Or.inl ⟨by rfl, ?_⟩) ?_ ?_
 rotate_left
 ·intro w'
  go_simp
  with_reducible rfl
 rotate_left
 ·simp only [Act.put, List.setIfInBounds_toArray, List.set_cons_zero, List.set_cons_succ, i64_w, i32_w]
  rfl
 refine pure_ (i := 30) (N := some 53) (v := ?_) (a' := ?_) (tf 31 55) rfl rfl (any_of HT_.out (by kernel_rfl)) (fun _ _ _ h => h) (Or.inl ⟨by rfl, ?_⟩) ?_ ?_
 rotate_left
 ·intro w'
  go_simp
  with_reducible rfl
 rotate_left
 ·simp only [Act.put, List.setIfInBounds_toArray, List.set_cons_zero, List.set_cons_succ, i64_w, i32_w]
  rfl
 refine pure_ (i := 31) (N := some 54) (v := ?_) (a' := ?_) (tf 32 54) rfl rfl (any_of HT_.out (by kernel_rfl)) (fun _ _ _ h => h) (Or.inl ⟨by rfl, ?_⟩) ?_ ?_
 rotate_left
 ·intro w'
  go_simp
  with_reducible rfl
 rotate_left
 ·simp only [Act.put, List.setIfInBounds_toArray, List.set_cons_zero, List.set_cons_succ, i64_w, i32_w]
  rfl
 refine take_ (i := 32) (N := some 55) (v := ?_) (a' := ?_) (tf 33 53) rfl rfl (take_ofW HT_.out HW_.out (by kernel_rfl)) (fun _ _ _ h => h) (Or.inl ⟨by rfl, ?_⟩) hHeld ?_ ?_
 rotate_left
 ·intro w' s0
  obtain ⟨x0, _⟩ := bk1 (blk_below H35.out s0)
  go_simp
  with_reducible rfl
 rotate_left
 ·simp only [Act.put, List.setIfInBounds_toArray, List.set_cons_zero, List.set_cons_succ, i64_w, i32_w]
  rfl
 refine take_ (i := 33) (N := some 56) (v := ?_) (a' := ?_) (tf 34 52) rfl rfl (take_ofW HT_.out HW_.out (by kernel_rfl)) (fun _ _ _ h => h) (Or.inl ⟨by rfl, ?_⟩) hHeld ?_ ?_
 rotate_left
 ·intro w' s0
  obtain ⟨x0, x1, x2, _, _, _⟩ := bk3 (blk_below H25.out s0)
  go_simp
  with_reducible rfl
 rotate_left
 ·simp only [Act.put, List.setIfInBounds_toArray, List.set_cons_zero, List.set_cons_succ, i64_w, i32_w]
  rfl
 refine one_ (i := 34) (N := some 57) (tf 35 51) rfl rfl (one_of HT_.out (by kernel_rfl)) (by decide) (fun K hK => ?_)
 refine goes_ Tryd.func25 (by kernel_rfl) rfl #[.agg #[.map (some b)], .agg #[.int .i64 2, .int .i64 0, .string ⟨#[84]⟩]] (by rfl) rfl rfl (by simp only [List.map_toArray, List.map_cons, List.map_nil]; rfl) ?_
 refine (aw_hasB (some b) _ (HS5.out.below hHeld)).mono ?_
 rintro e w934 ⟨rfl, hb⟩
 refine ⟨_, rfl, ?_⟩
 refine hK.out _ _ (below_step hHeld hb) (fun hHeld => ?_)
 clear hK K
 refine norm_ (a' := ?_) ?_ ?_
 rotate_left
 ·show Act.put _ (some 57) _ = _
  simp only [Act.put, List.setIfInBounds_toArray, List.set_cons_zero, List.set_cons_succ, i64_w, i32_w]
  rfl
 refine pure_ (i := 35) (N := some 58) (v := ?_) (a' := ?_) (tf 36 50) rfl rfl (any_of HT_.out (by kernel_rfl)) (fun _ _ _ h => h) (Or.inl ⟨by rfl, ?_⟩) ?_ ?_
 rotate_left
 ·intro w'
  go_simp
  with_reducible rfl
 rotate_left
 ·simp only [Act.put, List.setIfInBounds_toArray, List.set_cons_zero, List.set_cons_succ, i64_w, i32_w]
  rfl
 refine pure_ (i := 36) (N := some 59) (v := ?_) (a' := ?_) (tf 37 49) rfl rfl (any_of HT_.out (by kernel_rfl)) (fun _ _ _ h => h) (Or.inl ⟨by rfl, ?_⟩) ?_ ?_
 rotate_left
 ·intro w'
  go_simp
  with_reducible rfl
 rotate_left
 ·simp only [Act.put, List.setIfInBounds_toArray, List.set_cons_zero, List.set_cons_succ, i64_w, i32_w]
  rfl
 refine take_ (i := 37) (N := some 60) (v := ?_) (a' := ?_) (tf 38 48) rfl rfl (take_ofW HT_.out HW_.out (by kernel_rfl)) (fun _ _ _ h => h) (Or.inl ⟨by rfl, ?_⟩) hHeld ?_ ?_
 rotate_left
 ·intro w' s0
  obtain ⟨x0, x1, x2, _, _, _⟩ := bk3 (blk_below H15.out s0)
  go_simp
  with_reducible rfl
 rotate_left
 ·simp only [Act.put, List.setIfInBounds_toArray, List.set_cons_zero, List.set_cons_succ, i64_w, i32_w]
  rfl
 refine take_ (i := 40) (N := some 63) (v := ?_) (a' := ?_) #[true, true, true, true, true, true, true, true, true, true, true, true, true, true, true, true, true, true, true, true, true, true, true, true, true, true, true, true, true, true, true, true, true, true, true, true, true, true, false, false, true, false, false, false, false, false, false, false, false, false, false, false, false, false, false, false, false, false, false, false, false, false, false, false, false, false, false, false, false, false, false, false, false, false, false, false, false, false, false, false, false, false, false, false, false, false] rfl rfl (take_ofW HT_.out HW_.out (by kernel_rfl)) (fun _ _ _ h => h) (Or.inl ⟨by rfl, ?_⟩) hHeld ?_ ?_
 rotate_left
 ·intro w' s0
  obtain ⟨x0, x1, x2, _, _, _⟩ := bk3 (blk_below H25.out s0)
  go_simp
  with_reducible rfl
 rotate_left
 ·simp only [Act.put, List.setIfInBounds_toArray, List.set_cons_zero, List.set_cons_succ, i64_w, i32_w]
  rfl
 refine one_ (i := 38) (N := some 61) #[true, true, true, true, true, true, true, true, true, true, true, true, true, true, true, true, true, true, true, true, true, true, true, true, true, true, true, true, true, true, true, true, true, true, true, true, true, true, true, false, true, false, false, false, false, false, false, false, false, false, false, false, false, false, false, false, false, false, false, false, false, false, false, false, false, false, false, false, false, false, false, false, false, false, false, false, false, false, false, false, false, false, false, false, false, false] rfl rfl (one_of HT_.out (by kernel_rfl)) (by decide) (fun K hK => ?_)
 refine Kd.R_lit_step k24 _ 24 ?hg (N := 61) ?hd (xs := [nA]) (inner := [.int .i64 1, .int .i64 3, .string ⟨#[84]⟩]) (ok := fun _ => True) (okp := fun _ => True) ?hr ?hp (fun _ hk => hk) trivial (Below.refl _ _) (Nat.le_refl _) (by simp) ?_
 case hd => rfl
 case hg => rfl
 case hr => first | (go_simp; done) | (go_simp; rfl)
 case hp => exact Reps.snoc (Reps.none _ _) (k24_mkM _ _ _ nA) rfl
 intro v38 w38 ho38 hb38 _ _
 obtain ⟨A38, c38, rfl, hc38, hC38⟩ := Kd.R_reads ho38
 have HC38 := Aside0.mk hC38; have Hc38 := Aside0.mk hc38
 clear ho38 hC38 hc38
 refine hK.out _ _ ((below_step hHeld hb38)) (fun hHeld => ?_)
 clear hK K
 refine norm_ (a' := ?_) ?_ ?_
 rotate_left
 ·show Act.put _ (some 61) _ = _
  simp only [Act.put, List.setIfInBounds_toArray, List.set_cons_zero, List.set_cons_succ, i64_w, i32_w]
  rfl
 refine one_ (i := 39) (N := some 62) (tf 41 45) rfl rfl (one_of HT_.out (by kernel_rfl)) (by decide) (fun K hK => ?_)
 refine goes_ Tryd.func17 (by kernel_rfl) rfl #[.slice A38 [nA].length c38] (by rfl) rfl rfl (by simp only [List.map_toArray, List.map_cons, List.map_nil]; rfl) ?_
 refine (node_Of A38 c38 [nA] _ HC38.out Hc38.out wf_A (by decide)).mono ?_
 rintro e w939 ⟨b39, rfl, _, hs39, hb⟩
 refine ⟨_, rfl, ?_⟩
 have HS39 := Aside0.mk (show SetO w939 (some b39) [nA] from hs39)
 clear hs39
 refine hK.out _ _ (below_step hHeld hb) (fun hHeld => ?_)
 clear hK K
 refine norm_ (a' := ?_) ?_ ?_
 rotate_left
 ·show Act.put _ (some 62) _ = _
  simp only [Act.put, List.setIfInBounds_toArray, List.set_cons_zero, List.set_cons_succ, i64_w, i32_w]
  rfl
 refine one_ (i := 41) (N := some 64) (tf 42 44) rfl rfl (one_of HT_.out (by kernel_rfl)) (by decide) (fun K hK => ?_)
 refine goes_ Tryd.func25 (by kernel_rfl) rfl #[.agg #[.map (some b39)], .agg #[.int .i64 2, .int .i64 0, .string ⟨#[84]⟩]] (by rfl) rfl rfl (by simp only [List.map_toArray, List.map_cons, List.map_nil]; rfl) ?_
 refine (aw_hasnB (some b39) _ HS39.out).mono ?_
 rintro e w941 ⟨rfl, hb⟩
 refine ⟨_, rfl, ?_⟩
 refine hK.out _ _ (below_step hHeld hb) (fun hHeld => ?_)
 clear hK K
 refine norm_ (a' := ?_) ?_ ?_
 rotate_left
 ·show Act.put _ (some 64) _ = _
  simp only [Act.put, List.setIfInBounds_toArray, List.set_cons_zero, List.set_cons_succ, i64_w, i32_w]
  rfl
 refine pure_ (i := 42) (N := some 65) (v := ?_) (a' := ?_) (tf 43 43) rfl rfl (any_of HT_.out (by kernel_rfl)) (fun _ _ _ h => h) (Or.inl ⟨by rfl, ?_⟩) ?_ ?_
 rotate_left
 ·intro w'
  go_simp
  with_reducible rfl
 rotate_left
 ·simp only [Act.put, List.setIfInBounds_toArray, List.set_cons_zero, List.set_cons_succ, i64_w, i32_w]
  rfl
 refine pure_ (i := 43) (N := some 66) (v := ?_) (a' := ?_) (tf 44 42) rfl rfl (any_of HT_.out (by kernel_rfl)) (fun _ _ _ h => h) (Or.inl ⟨by rfl, ?_⟩) ?_ ?_
 rotate_left
 ·intro w'
  go_simp
  with_reducible rfl
 rotate_left
 ·simp only [Act.put, List.setIfInBounds_toArray, List.set_cons_zero, List.set_cons_succ, i64_w, i32_w]
  rfl
 refine pure_ (i := 44) (N := some 67) (v := ?_) (a' := ?_) (tf 45 41) rfl rfl (any_of HT_.out (by kernel_rfl)) (fun _ _ _ h => h) (Or.inl ⟨by rfl, ?_⟩) ?_ ?_
 rotate_left
 ·intro w'
  go_simp
  with_reducible rfl
 rotate_left
 ·simp only [Act.put, List.setIfInBounds_toArray, List.set_cons_zero, List.set_cons_succ, i64_w, i32_w]
  rfl
 refine take_ (i := 45) (N := some 68) (v := ?_) (a' := ?_) (tf 46 40) rfl rfl (take_ofW HT_.out HW_.out (by kernel_rfl)) (fun _ _ _ h => h) (Or.inl ⟨by rfl, ?_⟩) hHeld ?_ ?_
 rotate_left
 ·intro w' s0
  obtain ⟨x0, x1, x2, _, _, _⟩ := bk3 (blk_below H15.out s0)
  go_simp
  with_reducible rfl
 rotate_left
 ·simp only [Act.put, List.setIfInBounds_toArray, List.set_cons_zero, List.set_cons_succ, i64_w, i32_w]
  rfl
 refine take_ (i := 48) (N := some 71) (v := ?_) (a' := ?_) #[true, true, true, true, true, true, true, true, true, true, true, true, true, true, true, true, true, true, true, true, true, true, true, true, true, true, true, true, true, true, true, true, true, true, true, true, true, true, true, true, true, true, true, true, true, true, false, false, true, false, false, false, false, false, false, false, false, false, false, false, false, false, false, false, false, false, false, false, false, false, false, false, false, false, false, false, false, false, false, false, false, false, false, false, false, false] rfl rfl (take_ofW HT_.out HW_.out (by kernel_rfl)) (fun _ _ _ h => h) (Or.inl ⟨by rfl, ?_⟩) hHeld ?_ ?_
 rotate_left
 ·intro w' s0
  obtain ⟨x0, _⟩ := bk1 (blk_below H35.out s0)
  go_simp
  with_reducible rfl
 rotate_left
 ·simp only [Act.put, List.setIfInBounds_toArray, List.set_cons_zero, List.set_cons_succ, i64_w, i32_w]
  rfl
 refine one_ (i := 46) (N := some 69) #[true, true, true, true, true, true, true, true, true, true, true, true, true, true, true, true, true, true, true, true, true, true, true, true, true, true, true, true, true, true, true, true, true, true, true, true, true, true, true, true, true, true, true, true, true, true, true, false, true, false, false, false, false, false, false, false, false, false, false, false, false, false, false, false, false, false, false, false, false, false, false, false, false, false, false, false, false, false, false, false, false, false, false, false, false, false] rfl rfl (one_of HT_.out (by kernel_rfl)) (by decide) (fun K hK => ?_)
 refine Kd.R_lit_step k24 _ 24 ?hg (N := 69) ?hd (xs := [nA]) (inner := [.int .i64 1, .int .i64 3, .string ⟨#[84]⟩]) (ok := fun _ => True) (okp := fun _ => True) ?hr ?hp (fun _ hk => hk) trivial (Below.refl _ _) (Nat.le_refl _) (by simp) ?_
 case hd => rfl
 case hg => rfl
 case hr => first | (go_simp; done) | (go_simp; rfl)
 case hp => exact Reps.snoc (Reps.none _ _) (k24_mkM _ _ _ nA) rfl
 intro v46 w46 ho46 hb46 _ _
 obtain ⟨A46, c46, rfl, hc46, hC46⟩ := Kd.R_reads ho46
 have HC46 := Aside0.mk hC46; have Hc46 := Aside0.mk hc46
 clear ho46 hC46 hc46
 refine hK.out _ _ ((below_step hHeld hb46)) (fun hHeld => ?_)
 clear hK K
 refine norm_ (a' := ?_) ?_ ?_
 rotate_left
 ·show Act.put _ (some 69) _ = _
  simp only [Act.put, List.setIfInBounds_toArray, List.set_cons_zero, List.set_cons_succ, i64_w, i32_w]
  rfl
 refine one_ (i := 47) (N := some 70) (tf 49 37) rfl rfl (one_of HT_.out (by kernel_rfl)) (by decide) (fun K hK => ?_)
 refine goes_ Tryd.func17 (by kernel_rfl) rfl #[.slice A46 [nA].length c46] (by rfl) rfl rfl (by simp only [List.map_toArray, List.map_cons, List.map_nil]; rfl) ?_
 refine (node_Of A46 c46 [nA] _ HC46.out Hc46.out wf_A (by decide)).mono ?_
 rintro e w947 ⟨b47, rfl, _, hs47, hb⟩
 refine ⟨_, rfl, ?_⟩
 have HS47 := Aside0.mk (show SetO w947 (some b47) [nA] from hs47)
 clear hs47
 refine hK.out _ _ (below_step hHeld hb) (fun hHeld => ?_)
 clear hK K
 refine norm_ (a' := ?_) ?_ ?_
 rotate_left
 ·show Act.put _ (some 70) _ = _
  simp only [Act.put, List.setIfInBounds_toArray, List.set_cons_zero, List.set_cons_succ, i64_w, i32_w]
  rfl
 refine one_ (i := 49) (N := some 72) (tf 50 36) rfl rfl (one_of HT_.out (by kernel_rfl)) (by decide) (fun K hK => ?_)
 refine goes_ Tryd.func23 (by kernel_rfl) rfl #[.agg #[.map (some b47)], .agg #[.map (some b)]] (by rfl) rfl rfl (by simp only [List.map_toArray, List.map_cons, List.map_nil]; rfl) ?_
 refine (aw_in (some b47) (some b) _ HS47.out (HS5.out.below hHeld)).mono ?_
 rintro e w949 ⟨rfl, hb⟩
 refine ⟨_, rfl, ?_⟩
 refine hK.out _ _ (below_step hHeld hb) (fun hHeld => ?_)
 clear hK K
 refine norm_ (a' := ?_) ?_ ?_
 rotate_left
 ·show Act.put _ (some 72) _ = _
  simp only [Act.put, List.setIfInBounds_toArray, List.set_cons_zero, List.set_cons_succ, i64_w, i32_w]
  rfl
 refine pure_ (i := 50) (N := some 73) (v := ?_) (a' := ?_) (tf 51 35) rfl rfl (any_of HT_.out (by kernel_rfl)) (fun _ _ _ h => h) (Or.inl ⟨by rfl, ?_⟩) ?_ ?_
 rotate_left
 ·intro w'
  go_simp
  with_reducible rfl
 rotate_left
 ·simp only [Act.put, List.setIfInBounds_toArray, List.set_cons_zero, List.set_cons_succ, i64_w, i32_w]
  rfl
 refine pure_ (i := 51) (N := some 74) (v := ?_) (a' := ?_) (tf 52 34) rfl rfl (any_of HT_.out (by kernel_rfl)) (fun _ _ _ h => h) (Or.inl ⟨by rfl, ?_⟩) ?_ ?_
 rotate_left
 ·intro w'
  go_simp
  with_reducible rfl
 rotate_left
 ·simp only [Act.put, List.setIfInBounds_toArray, List.set_cons_zero, List.set_cons_succ, i64_w, i32_w]
  rfl
 refine take_ (i := 52) (N := some 75) (v := ?_) (a' := ?_) (tf 53 33) rfl rfl (take_ofW HT_.out HW_.out (by kernel_rfl)) (fun _ _ _ h => h) (Or.inl ⟨by rfl, ?_⟩) hHeld ?_ ?_
 rotate_left
 ·intro w' s0
  obtain ⟨x0, _⟩ := bk1 (blk_below H35.out s0)
  go_simp
  with_reducible rfl
 rotate_left
 ·simp only [Act.put, List.setIfInBounds_toArray, List.set_cons_zero, List.set_cons_succ, i64_w, i32_w]
  rfl
 refine take_ (i := 53) (N := some 76) (v := ?_) (a' := ?_) (tf 54 32) rfl rfl (take_ofW HT_.out HW_.out (by kernel_rfl)) (fun _ _ _ h => h) (Or.inl ⟨by rfl, ?_⟩) hHeld ?_ ?_
 rotate_left
 ·intro w' s0
  obtain ⟨x0, x1, x2, _, _, _⟩ := bk3 (blk_below H15.out s0)
  go_simp
  with_reducible rfl
 rotate_left
 ·simp only [Act.put, List.setIfInBounds_toArray, List.set_cons_zero, List.set_cons_succ, i64_w, i32_w]
  rfl
 refine one_ (i := 54) (N := some 77) (tf 55 31) rfl rfl (one_of HT_.out (by kernel_rfl)) (by decide) (fun K hK => ?_)
 refine Kd.R_lit_step k24 _ 24 ?hg (N := 77) ?hd (xs := [nA]) (inner := [.int .i64 1, .int .i64 3, .string ⟨#[84]⟩]) (ok := fun _ => True) (okp := fun _ => True) ?hr ?hp (fun _ hk => hk) trivial (Below.refl _ _) (Nat.le_refl _) (by simp) ?_
 case hd => rfl
 case hg => rfl
 case hr => first | (go_simp; done) | (go_simp; rfl)
 case hp => exact Reps.snoc (Reps.none _ _) (k24_mkM _ _ _ nA) rfl
 intro v54 w54 ho54 hb54 _ _
 obtain ⟨A54, c54, rfl, hc54, hC54⟩ := Kd.R_reads ho54
 have HC54 := Aside0.mk hC54; have Hc54 := Aside0.mk hc54
 clear ho54 hC54 hc54
 refine hK.out _ _ ((below_step hHeld hb54)) (fun hHeld => ?_)
 clear hK K
 refine norm_ (a' := ?_) ?_ ?_
 rotate_left
 ·show Act.put _ (some 77) _ = _
  simp only [Act.put, List.setIfInBounds_toArray, List.set_cons_zero, List.set_cons_succ, i64_w, i32_w]
  rfl
 refine one_ (i := 55) (N := some 78) (tf 56 30) rfl rfl (one_of HT_.out (by kernel_rfl)) (by decide) (fun K hK => ?_)
 refine goes_ Tryd.func17 (by kernel_rfl) rfl #[.slice A54 [nA].length c54] (by rfl) rfl rfl (by simp only [List.map_toArray, List.map_cons, List.map_nil]; rfl) ?_
 refine (node_Of A54 c54 [nA] _ HC54.out Hc54.out wf_A (by decide)).mono ?_
 rintro e w955 ⟨b55, rfl, _, hs55, hb⟩
 refine ⟨_, rfl, ?_⟩
 have HS55 := Aside0.mk (show SetO w955 (some b55) [nA] from hs55)
 clear hs55
 refine hK.out _ _ (below_step hHeld hb) (fun hHeld => ?_)
 clear hK K
 refine norm_ (a' := ?_) ?_ ?_
 rotate_left
 ·show Act.put _ (some 78) _ = _
  simp only [Act.put, List.setIfInBounds_toArray, List.set_cons_zero, List.set_cons_succ, i64_w, i32_w]
  rfl
 refine one_ (i := 56) (N := some 79) (tf 57 29) rfl rfl (one_of HT_.out (by kernel_rfl)) (by decide) (fun K hK => ?_)
 refine goes_ Tryd.func23 (by kernel_rfl) rfl #[.agg #[.map (some b)], .agg #[.map (some b55)]] (by rfl) rfl rfl (by simp only [List.map_toArray, List.map_cons, List.map_nil]; rfl) ?_
 refine (aw_nin (some b) (some b55) _ (HS5.out.below hHeld) HS55.out).mono ?_
 rintro e w956 ⟨rfl, hb⟩
 refine ⟨_, rfl, ?_⟩
 refine hK.out _ _ (below_step hHeld hb) (fun hHeld => ?_)
 clear hK K
 refine norm_ (a' := ?_) ?_ ?_
 rotate_left
 ·show Act.put _ (some 79) _ = _
  simp only [Act.put, List.setIfInBounds_toArray, List.set_cons_zero, List.set_cons_succ, i64_w, i32_w]
  rfl
 refine pure_ (i := 57) (N := some 80) (v := ?_) (a' := ?_) (tf 58 28) rfl rfl (any_of HT_.out (by kernel_rfl)) (fun _ _ _ h => h) (Or.inl ⟨by rfl, ?_⟩) ?_ ?_
 rotate_left
 ·intro w'
  go_simp
  with_reducible rfl
 rotate_left
 ·simp only [Act.put, List.setIfInBounds_toArray, List.set_cons_zero, List.set_cons_succ, i64_w, i32_w]
  rfl
 refine pure_ (i := 58) (N := some 81) (v := ?_) (a' := ?_) (tf 59 27) rfl rfl (any_of HT_.out (by kernel_rfl)) (fun _ _ _ h => h) (Or.inl ⟨by rfl, ?_⟩) ?_ ?_
 rotate_left
 ·intro w'
  go_simp
  with_reducible rfl
 rotate_left
 ·simp only [Act.put, List.setIfInBounds_toArray, List.set_cons_zero, List.set_cons_succ, i64_w, i32_w]
  rfl
 refine pure_ (i := 59) (N := some 82) (v := ?_) (a' := ?_) (tf 60 26) rfl rfl (any_of HT_.out (by kernel_rfl)) (fun _ _ _ h => h) (Or.inl ⟨by rfl, ?_⟩) ?_ ?_
 rotate_left
 ·intro w'
  go_simp
  with_reducible rfl
 rotate_left
 ·simp only [Act.put, List.setIfInBounds_toArray, List.set_cons_zero, List.set_cons_succ, i64_w, i32_w]
  rfl
 refine take_ (i := 60) (N := some 83) (v := ?_) (a' := ?_) (tf 61 25) rfl rfl (take_ofW HT_.out HW_.out (by kernel_rfl)) (fun _ _ _ h => h) (Or.inl ⟨by rfl, ?_⟩) hHeld ?_ ?_
 rotate_left
 ·intro w' s0
  obtain ⟨x0, _⟩ := bk1 (blk_below H35.out s0)
  go_simp
  with_reducible rfl
 rotate_left
 ·simp only [Act.put, List.setIfInBounds_toArray, List.set_cons_zero, List.set_cons_succ, i64_w, i32_w]
  rfl
 refine one_ (i := 61) (N := some 84) (tf 62 24) rfl rfl (one_of HT_.out (by kernel_rfl)) (by decide) (fun K hK => ?_)
 refine goes_ Tryd.func24 (by kernel_rfl) rfl #[.agg #[.map (some b)], .string ⟨#[85]⟩] (by rfl) rfl rfl (by simp only [List.map_toArray, List.map_cons, List.map_nil]; rfl) ?_
 refine (aw_typed (some b) _ (HS5.out.below hHeld)).mono ?_
 rintro e w961 ⟨b61, rfl, hs61, hb⟩
 refine ⟨_, rfl, ?_⟩
 have HS61 := Aside0.mk hs61
 clear hs61
 refine hK.out _ _ (below_step hHeld hb) (fun hHeld => ?_)
 clear hK K
 refine norm_ (a' := ?_) ?_ ?_
 rotate_left
 ·show Act.put _ (some 84) _ = _
  simp only [Act.put, List.setIfInBounds_toArray, List.set_cons_zero, List.set_cons_succ, i64_w, i32_w]
  rfl
 refine one_ (i := 62) (N := some 85) (tf 63 23) rfl rfl (one_of HT_.out (by kernel_rfl)) (by decide) (fun K hK => ?_)
 refine goes_ Tryd.func26 (by kernel_rfl) rfl #[.agg #[.map (some b61)]] (by rfl) rfl rfl (by simp only [List.map_toArray, List.map_cons, List.map_nil]; rfl) ?_
 refine (aw_len0 (some b61) _ HS61.out).mono ?_
 rintro e w962 ⟨rfl, hb⟩
 refine ⟨_, rfl, ?_⟩
 refine hK.out _ _ (below_step hHeld hb) (fun hHeld => ?_)
 clear hK K
 refine norm_ (a' := ?_) ?_ ?_
 rotate_left
 ·show Act.put _ (some 85) _ = _
  simp only [Act.put, List.setIfInBounds_toArray, List.set_cons_zero, List.set_cons_succ, i64_w, i32_w]
  rfl
 refine pure_ (i := 63) (N := some 86) (v := ?_) (a' := ?_) (tf 64 22) rfl rfl (any_of HT_.out (by kernel_rfl)) (fun _ _ _ h => h) (Or.inl ⟨by rfl, ?_⟩) ?_ ?_
 rotate_left
 ·intro w'
  go_simp
  with_reducible rfl
 rotate_left
 ·simp only [Act.put, List.setIfInBounds_toArray, List.set_cons_zero, List.set_cons_succ, i64_w, i32_w]
  rfl
 refine pure_ (i := 64) (N := some 87) (v := ?_) (a' := ?_) (tf 65 21) rfl rfl (any_of HT_.out (by kernel_rfl)) (fun _ _ _ h => h) (Or.inl ⟨by rfl, ?_⟩) ?_ ?_
 rotate_left
 ·intro w'
  go_simp
  with_reducible rfl
 rotate_left
 ·simp only [Act.put, List.setIfInBounds_toArray, List.set_cons_zero, List.set_cons_succ, i64_w, i32_w]
  rfl
 refine pure_ (i := 65) (N := some 88) (v := ?_) (a' := ?_) (tf 66 20) rfl rfl (any_of HT_.out (by kernel_rfl)) (fun _ _ _ h => h) (Or.inl ⟨by rfl, ?_⟩) ?_ ?_
 rotate_left
 ·intro w'
  go_simp
  with_reducible rfl
 rotate_left
 ·simp only [Act.put, List.setIfInBounds_toArray, List.set_cons_zero, List.set_cons_succ, i64_w, i32_w]
  rfl
 refine pure_ (i := 66) (N := some 89) (v := ?_) (a' := ?_) (tf 67 19) rfl rfl (any_of HT_.out (by kernel_rfl)) (fun _ _ _ h => h) (Or.inl ⟨by rfl, ?_⟩) ?_ ?_
 rotate_left
 ·intro w'
  go_simp
  with_reducible rfl
 rotate_left
 ·simp only [Act.put, List.setIfInBounds_toArray, List.set_cons_zero, List.set_cons_succ, i64_w, i32_w]
  rfl
 refine pure_ (i := 67) (N := some 90) (v := ?_) (a' := ?_) (tf 68 18) rfl rfl (any_of HT_.out (by kernel_rfl)) (fun _ _ _ h => h) (Or.inl ⟨by rfl, ?_⟩) ?_ ?_
 rotate_left
 ·intro w'
  go_simp
  with_reducible rfl
 rotate_left
 ·simp only [Act.put, List.setIfInBounds_toArray, List.set_cons_zero, List.set_cons_succ, i64_w, i32_w]
  rfl
 refine pure_ (i := 68) (N := some 91) (v := ?_) (a' := ?_) (tf 69 17) rfl rfl (any_of HT_.out (by kernel_rfl)) (fun _ _ _ h => h) (Or.inl ⟨by rfl, ?_⟩) ?_ ?_
 rotate_left
 ·intro w'
  go_simp
  with_reducible rfl
 rotate_left
 ·simp only [Act.put, List.setIfInBounds_toArray, List.set_cons_zero, List.set_cons_succ, i64_w, i32_w]
  rfl
 refine pure_ (i := 69) (N := some 92) (v := ?_) (a' := ?_) (tf 70 16) rfl rfl (any_of HT_.out (by kernel_rfl)) (fun _ _ _ h => h) (Or.inl ⟨by rfl, ?_⟩) ?_ ?_
 rotate_left
 ·intro w'
  go_simp
  with_reducible rfl
 rotate_left
 ·simp only [Act.put, List.setIfInBounds_toArray, List.set_cons_zero, List.set_cons_succ, i64_w, i32_w]
  rfl
 refine pure_ (i := 70) (N := some 93) (v := ?_) (a' := ?_) (tf 71 15) rfl rfl (any_of HT_.out (by kernel_rfl)) (fun _ _ _ h => h) (Or.inl ⟨by rfl, ?_⟩) ?_ ?_
 rotate_left
 ·intro w'
  go_simp
  with_reducible rfl
 rotate_left
 ·simp only [Act.put, List.setIfInBounds_toArray, List.set_cons_zero, List.set_cons_succ, i64_w, i32_w]
  rfl
 refine pure_ (i := 71) (N := some 94) (v := ?_) (a' := ?_) (tf 72 14) rfl rfl (any_of HT_.out (by kernel_rfl)) (fun _ _ _ h => h) (Or.inl ⟨by rfl, ?_⟩) ?_ ?_
 rotate_left
 ·intro w'
  go_simp
  with_reducible rfl
 rotate_left
 ·simp only [Act.put, List.setIfInBounds_toArray, List.set_cons_zero, List.set_cons_succ, i64_w, i32_w]
  rfl
 refine pure_ (i := 72) (N := some 95) (v := ?_) (a' := ?_) (tf 73 13) rfl rfl (any_of HT_.out (by kernel_rfl)) (fun _ _ _ h => h) (Or.inl ⟨by rfl, ?_⟩) ?_ ?_
 rotate_left
 ·intro w'
  go_simp
  with_reducible rfl
 rotate_left
 ·simp only [Act.put, List.setIfInBounds_toArray, List.set_cons_zero, List.set_cons_succ, i64_w, i32_w]
  rfl
 refine pure_ (i := 75) (N := some 98) (v := ?_) (a' := ?_) #[true, true, true, true, true, true, true, true, true, true, true, true, true, true, true, true, true, true, true, true, true, true, true, true, true, true, true, true, true, true, true, true, true, true, true, true, true, true, true, true, true, true, true, true, true, true, true, true, true, true, true, true, true, true, true, true, true, true, true, true, true, true, true, true, true, true, true, true, true, true, true, true, true, false, false, true, false, false, false, false, false, false, false, false, false, false] rfl rfl (any_of HT_.out (by kernel_rfl)) (fun _ _ _ h => h) (Or.inl ⟨by rfl, ?_⟩) ?_ ?_
 rotate_left
 ·intro w'
  go_simp
  with_reducible rfl
 rotate_left
 ·simp only [Act.put, List.setIfInBounds_toArray, List.set_cons_zero, List.set_cons_succ, i64_w, i32_w]
  rfl
 refine take_ (i := 73) (N := some 96) (v := ?_) (a' := ?_) #[true, true, true, true, true, true, true, true, true, true, true, true, true, true, true, true, true, true, true, true, true, true, true, true, true, true, true, true, true, true, true, true, true, true, true, true, true, true, true, true, true, true, true, true, true, true, true, true, true, true, true, true, true, true, true, true, true, true, true, true, true, true, true, true, true, true, true, true, true, true, true, true, true, true, false, true, false, false, false, false, false, false, false, false, false, false] rfl rfl (take_ofW HT_.out HW_.out (by kernel_rfl)) (fun _ _ _ h => h) (Or.inl ⟨by rfl, ?_⟩) hHeld ?_ ?_
 rotate_left
 ·intro w' s0
  obtain ⟨x0, x1, x2, x3, x4, x5, x6⟩ := HC5.out w' s0
  go_simp
  with_reducible rfl
 rotate_left
 ·simp only [Act.put, List.setIfInBounds_toArray, List.set_cons_zero, List.set_cons_succ, i64_w, i32_w]
  rfl
 refine take_ (i := 74) (N := some 97) (v := ?_) (a' := ?_) (tf 76 10) rfl rfl (take_ofW HT_.out HW_.out (by kernel_rfl)) (fun _ _ _ h => h) (Or.inl ⟨by rfl, ?_⟩) hHeld ?_ ?_
 rotate_left
 ·intro w' s0
  obtain ⟨x0, x1, x2, _, _, _⟩ := bk3 (blk_below H25.out s0)
  go_simp
  with_reducible rfl
 rotate_left
 ·simp only [Act.put, List.setIfInBounds_toArray, List.set_cons_zero, List.set_cons_succ, i64_w, i32_w]
  rfl
 refine pure_ (i := 76) (N := some 99) (v := ?_) (a' := ?_) (tf 77 9) rfl rfl (any_of HT_.out (by kernel_rfl)) (fun _ _ _ h => h) (Or.inl ⟨by rfl, ?_⟩) ?_ ?_
 rotate_left
 ·intro w'
  go_simp
  with_reducible rfl
 rotate_left
 ·simp only [Act.put, List.setIfInBounds_toArray, List.set_cons_zero, List.set_cons_succ, i64_w, i32_w]
  rfl
 refine pure_ (i := 77) (N := some 100) (v := ?_) (a' := ?_) (tf 78 8) rfl rfl (any_of HT_.out (by kernel_rfl)) (fun _ _ _ h => h) (Or.inl ⟨by rfl, ?_⟩) ?_ ?_
 rotate_left
 ·intro w'
  go_simp
  with_reducible rfl
 rotate_left
 ·simp only [Act.put, List.setIfInBounds_toArray, List.set_cons_zero, List.set_cons_succ, i64_w, i32_w]
  rfl
 refine pure_ (i := 78) (N := some 101) (v := ?_) (a' := ?_) (tf 79 7) rfl rfl (any_of HT_.out (by kernel_rfl)) (fun _ _ _ h => h) (Or.inl ⟨by rfl, ?_⟩) ?_ ?_
 rotate_left
 ·intro w'
  go_simp
  with_reducible rfl
 rotate_left
 ·simp only [Act.put, List.setIfInBounds_toArray, List.set_cons_zero, List.set_cons_succ, i64_w, i32_w]
  rfl
 refine pure_ (i := 79) (N := some 102) (v := ?_) (a' := ?_) (tf 80 6) rfl rfl (any_of HT_.out (by kernel_rfl)) (fun _ _ _ h => h) (Or.inl ⟨by rfl, ?_⟩) ?_ ?_
 rotate_left
 ·intro w'
  go_simp
  with_reducible rfl
 rotate_left
 ·simp only [Act.put, List.setIfInBounds_toArray, List.set_cons_zero, List.set_cons_succ, i64_w, i32_w]
  rfl
 refine take_ (i := 80) (N := some 103) (v := ?_) (a' := ?_) (tf 81 5) rfl rfl (take_ofW HT_.out HW_.out (by kernel_rfl)) (fun _ _ _ h => h) (Or.inl ⟨by rfl, ?_⟩) hHeld ?_ ?_
 rotate_left
 ·intro w' s0
  obtain ⟨x0, x1, x2, _, _, _⟩ := bk3 (blk_below H15.out s0)
  go_simp
  with_reducible rfl
 rotate_left
 ·simp only [Act.put, List.setIfInBounds_toArray, List.set_cons_zero, List.set_cons_succ, i64_w, i32_w]
  rfl
 refine one_ (i := 81) (N := some 104) (tf 82 4) rfl rfl (one_of HT_.out (by kernel_rfl)) (by decide) (fun K hK => ?_)
 refine goes_ Tryd.func10 (by kernel_rfl) rfl #[.slice none 0 0, .agg #[.int .i64 1, .int .i64 3, .string ⟨#[84]⟩]] (by rfl) rfl rfl (by simp only [List.map_toArray, List.map_cons, List.map_nil]; rfl) ?_
 refine (node_First.calls 60 none 0 [] 1 3 ⟨#[84]⟩ [] _ (Kd.C_nil _ _) (Nat.le_refl _) first_A).mono ?_
 rintro e w981 ⟨v81, rfl, hr81, hb⟩
 refine ⟨_, rfl, ?_⟩
 obtain ⟨A81, c81, e81⟩ := Kd.R_slice hr81
 subst e81
 clear hr81
 refine hK.out _ _ (below_step hHeld hb) (fun hHeld => ?_)
 clear hK K
 refine norm_ (a' := ?_) ?_ ?_
 rotate_left
 ·show Act.put _ (some 104) _ = _
  simp only [Act.put, List.setIfInBounds_toArray, List.set_cons_zero, List.set_cons_succ, i64_w, i32_w]
  rfl
 refine pure_ (i := 82) (N := some 105) (v := ?_) (a' := ?_) (tf 83 3) rfl rfl (any_of HT_.out (by kernel_rfl)) (fun _ _ _ h => h) (Or.inl ⟨by rfl, ?_⟩) ?_ ?_
 rotate_left
 ·intro w'
  go_simp
  with_reducible rfl
 rotate_left
 ·simp only [Act.put, List.setIfInBounds_toArray, List.set_cons_zero, List.set_cons_succ, i64_w, i32_w]
  rfl
 refine pure_ (i := 83) (N := some 106) (v := ?_) (a' := ?_) (tf 84 2) rfl rfl (any_of HT_.out (by kernel_rfl)) (fun _ _ _ h => h) (Or.inl ⟨by rfl, ?_⟩) ?_ ?_
 rotate_left
 ·intro w'
  go_simp
  with_reducible rfl
 rotate_left
 ·simp only [Act.put, List.setIfInBounds_toArray, List.set_cons_zero, List.set_cons_succ, i64_w, i32_w]
  rfl
 refine pure_ (i := 84) (N := some 107) (v := ?_) (a' := ?_) (tf 85 1) rfl rfl (any_of HT_.out (by kernel_rfl)) (fun _ _ _ h => h) (Or.inl ⟨by rfl, ?_⟩) ?_ ?_
 rotate_left
 ·intro w'
  go_simp
  with_reducible rfl
 rotate_left
 ·simp only [Act.put, List.setIfInBounds_toArray, List.set_cons_zero, List.set_cons_succ, i64_w, i32_w]
  rfl
 refine pure_ (i := 85) (N := some 0) (v := ?_) (a' := ?_) (tf 86 0) rfl rfl (any_of HT_.out (by kernel_rfl)) (fun _ _ _ h => h) (Or.inl ⟨by rfl, ?_⟩) ?_ ?_
 rotate_left
 ·intro w'
  go_simp
  with_reducible rfl
 rotate_left
 ·simp only [Act.put, List.setIfInBounds_toArray, List.set_cons_zero, List.set_cons_succ, i64_w, i32_w]
  rfl
 refine done_ (done_of HT_.out (by kernel_rfl)) ?_
 go_wp2
 go_ret
 exact ⟨rfl, below_step HB5.out hHeld⟩
end Go.Proofs.YtgidnkmlnccaiaaDoor.Q
