/- What the row of NumExact rests on, part 1: contracts of the functions that it reaches, and the plain law. -/
import Derived.Test.YtcmppjonpmgncaaDoorJNumExact0
/- truantref01.Do, bit by bit: by hand; written by wip/tool/genDo.py. -/
namespace Go.Proofs.YtcmppjonpmgncaaDoor.Q
open Go.RowKit Go.Proofs.YtcmppjonpmgncaaDoorW.PrintWords Go.Proofs.YtcmppjonpmgncaaDoorW.PrintLast Go.Proofs.YtcmppjonpmgncaaDoorW.PrintMore
set_option linter.unusedVariables false
set_option linter.unusedSimpArgs false
def sizeS (n : Bool) (r : BitVec 64) : BitVec 64 := if n = true then -r else r
def quoX (p q : Bool) (x : BitVec 64) : BitVec 64 := if p = q then x else -x
/-- What comes out, in numbers of 64 bits; y as it was given. -/
def doB (op : Int) (a b : BitVec 64) (y : Int) : Int × Int :=
 if op = 1 then ((a + b + ofB false).toInt, 0) else if op = 2 then ((a + ~~~b + ofB true).toInt, 0) else if op = 3 then ((BitVec.ofNat 64 (a.toNat * b.toNat)).toInt, 0)
 else if op = 4 then (if b = 0#64 then (0, 11) else ((quoX (a.getLsbD 63) (b.getLsbD 63) (sizeBV a / sizeBV b)).toInt, 0))
 else if op = 5 then (if b = 0#64 then (0, 11) else ((sizeS (a.getLsbD 63) (sizeBV a % sizeBV b)).toInt, 0))
 else if op = 6 then ((a &&& b).toInt, 0) else if op = 7 then ((a ||| b).toInt, 0) else if op = 8 then ((a ^^^ b).toInt, 0)
 else if op = 9 then (if b.getLsbD 63 = true then (0, 12) else ((a <<< (min y.toNat 64)).toInt, 0))
 else if op = 10 then (if b.getLsbD 63 = true then (0, 12) else ((a.sshiftRight (min y.toNat 64)).toInt, 0))
 else if op = 11 then (tr (a == b), 0) else if op = 12 then (tr (!(a == b)), 0) else if op = 13 then (tr (decide (a.toInt < b.toInt)), 0) else if op = 14 then (tr (!(decide (b.toInt < a.toInt))), 0)
 else if op = 15 then (tr (decide (b.toInt < a.toInt)), 0) else if op = 16 then (tr (!(decide (a.toInt < b.toInt))), 0) else if op = 17 then ((-a).toInt, 0) else if op = 18 then (tr (a == 0#64), 0) else (0, 9)
def truantref01_Do.f (a0 a1 a2 : Int) : Option (Int × Int) := if -9223372036854775808 ≤ a2 ∧ a2 ≤ 9223372036854775807 then some (doB a0 (BitVec.ofInt 64 a1) (BitVec.ofInt 64 a2) a2) else none
theorem eq_items {A B : Array Value} {f g : Nat → Bool} (hA : Bits A f) (hB : Bits B g) (w : World) (d : Nat) : ∀ is : List Nat, (∀ i ∈ is, i < 64) →
  (Op.eqItems (d + 1) 4 (Tryd.prog.cellsOf 4) A B is).run Tryd.prog w = .ok (is.all fun i => f i == g i) w
 | [], _ => by simp [Op.eqItems]
 | i :: is, h => by
  have hi := h i List.mem_cons_self
  have ih := eq_items hA hB w d is (fun j hj => h j (List.mem_cons_of_mem _ hj))
  have hc : Tryd.prog.cellsOf 4 = 1 := by kernel_rfl
  have hk : Tryd.prog.plainKey 4 = true := by kernel_rfl
  have p1 := run_part_plain w hk (xs := A) (off := i * Tryd.prog.cellsOf 4) (v := .bool (f i)) (by rw [hc, Nat.mul_one]; exact hA.get hi)
  have p2 := run_part_plain w hk (xs := B) (off := i * Tryd.prog.cellsOf 4) (v := .bool (g i)) (by rw [hc, Nat.mul_one]; exact hB.get hi)
  have p3 := run_equalIn_bool' w d 4 (f i) (g i) Tryd.underlying4
  simp only [Op.eqItems, Sem.run_bind, p1, p2, p3, Result.andThen_ok, List.all_cons]
  cases he : (f i == g i)
  ·simp
  ·simpa using ih
theorem eq_run (A B : Array Value) (a b : BitVec 64) (hA : Bits A (fun j => a.getLsbD j)) (hB : Bits B (fun j => b.getLsbD j)) (w : World) (d : Nat) : (Op.equalIn (d + 2) tB (.agg A) (.agg B)).run Tryd.prog w = .ok (a == b) w := by
 obtain ⟨i, hi⟩ : ∃ i, Tryd.prog.info? 4 = some i := by
  cases h : Tryd.prog.info? 4 with
  | none => exact absurd (show (Tryd.prog.info? 4).isSome = true by kernel_rfl) (by rw [h]; decide)
  | some i => exact ⟨i, rfl⟩
 have := run_equalIn_array w (d + 1) A B undB hi
 rw [show d + 2 = d + 1 + 1 from rfl, this, eq_items hA hB w d (List.range 64) (fun i hi => List.mem_range.mp hi)]
 have e0 : (List.range 64).all (fun i => a.getLsbD i == b.getLsbD i) = (a == b) := by
  by_cases e : a = b
  ·rw [e, beq_self_eq_true]
   exact List.all_eq_true.mpr (fun i _ => beq_self_eq_true _)
  ·rw [beq_eq_false_iff_ne.mpr e, Bool.eq_false_iff]
   intro h
   exact e (BitVec.eq_of_getLsbD_eq (fun i hi => by have := List.all_eq_true.mp h i (List.mem_range.mpr hi); exact beq_iff_eq.mp this))
 rw [e0]
theorem neg_bit {b : BitVec 64} {y : Int} (h : b = BitVec.ofInt 64 y) (hy : -9223372036854775808 ≤ y ∧ y ≤ 9223372036854775807) : b.getLsbD 63 = decide (y < 0) := by
 have h1 := toInt_of b
 have h2 : b.toInt = y := by
  rw [h, BitVec.toInt_ofInt]
  simp only [Int.bmod]
  split <;> omega
 have h3 := b.isLt
 have h4 : b.toNat / 2 ^ 63 % 2 = (b.getLsbD 63).toNat := x64 (by decide)
 cases h5 : b.getLsbD 63 with
 | true => rw [h5] at h1; simp at h1; exact (decide_eq_true (by omega)).symm
 | false => rw [h5] at h1; simp at h1; exact (decide_eq_false (by omega)).symm
theorem ex_alloc {o : Oper} {a : Act} {w : World} {Z : Array Value} (ho : o.op = .alloc tB) (hz : ∀ w, (zeroValue tB).run Tryd.prog w = .ok (.agg Z) w) : (execOp a.eval o).run Tryd.prog w = .ok (.value (.pointer (some ⟨w.heap.size, 0, none⟩))) (w.alloc (.cells Z tB)) := by
 unfold execOp
 simp [ho, Instr.alloc, hz]
 rfl
theorem size_pos {b : BitVec 64} (h : b ≠ 0#64) : 0 < (sizeBV b).toNat := by
 have h1 : sizeBV b ≠ 0#64 := by
  unfold sizeBV
  split
  ·intro e; exact h (BitVec.neg_eq_zero_iff.mp e)
  ·exact h
 apply Nat.pos_of_ne_zero
 intro e
 exact h1 (BitVec.eq_of_toNat_eq (by simpa using e))
theorem mul_step (a b : BitVec 64) (i : Nat) (hi : i < 64) (hb : b.getLsbD i = true) : BitVec.ofNat 64 (a.toNat * (b.toNat % 2 ^ i)) + (a <<< i) + ofB false = BitVec.ofNat 64 (a.toNat * (b.toNat % 2 ^ (i + 1))) := by
 have h1 := x64 (b := b) hi
 rw [hb] at h1
 have h2 : (a <<< i) = BitVec.ofNat 64 (a.toNat * 2 ^ i) := by
  apply BitVec.eq_of_toNat_eq
  rw [BitVec.toNat_shiftLeft, BitVec.toNat_ofNat, Nat.shiftLeft_eq]
 have h3 : ofB false = 0#64 := rfl
 rw [Nat.mod_pow_succ, h1, h2, h3, BitVec.add_zero, ← BitVec.ofNat_add]
 congr 1
 rw [← Nat.mul_add]
 simp
def Do.T9 : Bool × List (List Nat × List Nat) := (true, [([], []), ([], []), ([1], [1]), ([0, 2, 2], [0, 2]), ([3, 3, 0, 1, 2, 3], [3])])
def Do.B9 : List Nat := [0, 0, 2, 7, 15]
theorem Do.tab9 : rtab .any (opsOf Tryd.f12 9) = Do.T9 := by kernel_rfl
theorem Do.bits9 : waitsOk Do.T9.2 Do.B9 = true := by kernel_rfl
def Do.T15 : Bool × List (List Nat × List Nat) := (true, [([], []), ([], []), ([], []), ([1, 2], [1, 2]), ([0, 3, 3], [0, 3]), ([4, 4, 0, 1, 2, 3, 4], [4])])
def Do.B15 : List Nat := [0, 0, 0, 6, 15, 31]
theorem Do.tab15 : rtab .any (opsOf Tryd.f12 15) = Do.T15 := by kernel_rfl
theorem Do.bits15 : waitsOk Do.T15.2 Do.B15 = true := by kernel_rfl
def Do.T20 : Bool × List (List Nat × List Nat) := (true, [([], []), ([0], [0]), ([], []), ([2, 1], [2]), ([1, 3, 3], [1, 3]), ([4], [4]), ([5], [5]), ([5], [5]), ([], []), ([], []), ([8, 6, 4, 0, 1, 2, 3, 4, 5, 6, 8, 9], [6, 8]), ([9, 7, 10, 0, 1, 2, 3, 4, 5, 6, 7, 8, 9, 10], [7, 9])])
def Do.B20 : List Nat := [0, 1, 0, 7, 15, 31, 63, 63, 0, 0, 895, 2047]
theorem Do.tab20 : rtab .any (opsOf Tryd.f12 20) = Do.T20 := by kernel_rfl
theorem Do.bits20 : waitsOk Do.T20.2 Do.B20 = true := by kernel_rfl
set_option maxRecDepth 100000 in
set_option maxHeartbeats 8000000 in
theorem truantref01_Do.calls (a0 a1 a2 : Int) (r1 r2 : Int) (w : World) (h : truantref01_Do.f a0 a1 a2 = some (r1, r2)) :
  Calls Tryd.prog 12 #[.int .i64 a0, .int .i64 a1, .int .i64 a2] w fun e w' => e = .returned (.tuple #[.int .i64 r1, .int .i64 r2]) ∧ Below w.heap.size w w' := by
 obtain ⟨op, ho⟩ : ∃ op, op = a0 := ⟨_, rfl⟩
 obtain ⟨y, hy⟩ : ∃ y, y = a2 := ⟨_, rfl⟩
 obtain ⟨a, ha⟩ : ∃ a, a = BitVec.ofInt 64 a1 := ⟨_, rfl⟩
 obtain ⟨b, hb⟩ : ∃ b, b = BitVec.ofInt 64 a2 := ⟨_, rfl⟩
 have hyr : -9223372036854775808 ≤ a2 ∧ a2 ≤ 9223372036854775807 := by
  unfold truantref01_Do.f at h
  split at h
  ·assumption
  ·cases h
 unfold truantref01_Do.f at h
 rw [if_pos hyr] at h
 have HR : Aside0 (doB op a b y = (r1, r2)) := ⟨by rw [ho, hy, ha, hb]; exact Option.some.inj h⟩
 have HYR : Aside0 (-9223372036854775808 ≤ y ∧ y ≤ 9223372036854775807) := ⟨by rw [hy]; exact hyr⟩
 clear h hyr
 have HFA := Aside0.mk (From_calls a1); have HFB := Aside0.mk (From_calls a2)
 rw [← ha] at HFA
 rw [← hb] at HFB
 rw [← ho]
 have HYB : Aside0 (b = BitVec.ofInt 64 y) := ⟨by rw [hb, hy]⟩
 rw [← hy] at HFB ⊢
 clear ho ha hb hy
 go_enter Tryd.func12, Tryd.ntmps12
 go_wp2_with fail
 refine (HFA.out w).mono ?_
 rintro e w1 ⟨A, rfl, hA, hB1⟩
 go_upto_region 2 with (refine s_alloc rfl rfl ?_; intro Z w2 hZ hb2 hB2 hs2; refine s_store rfl _ _ rfl rfl rfl hb2 hZ hA ?_; intro w3 hb3 hg3)
 have hB3 := (below_step hB1 hB2).grown hg3 (below_step hB1 hB2).size (fun k e => by cases e; exact hB1.size)
 go_wp2_with fail
 refine (HFB.out w3).mono ?_
 rintro e w4 ⟨B, rfl, hB, hB4⟩
 go_upto_region 3 with (refine s_alloc rfl rfl ?_; intro Z5 w5 hZ5 hb5 hB5 hs5; refine s_store rfl _ _ rfl rfl rfl hb5 hZ5 hB ?_; intro w6 hb6 hg6)
 apply wp_region_lit
 refine s_build rfl rfl ?_
 intro O hO
 refine s_alloc rfl rfl ?_
 intro Z7 w7 hZ7 hb7 hB7 hs7
 refine s_store rfl _ _ rfl rfl rfl hb7 hZ7 hO ?_
 intro w8 hb8 hg8
 have hl3 := hb3.lt; have hl4 := hB4.size; have hl6 := hb6.lt; have hs3 := hg3.size; have hs6 := hg6.size; have hs1 := hB1.size
 have hx1 : Blk w8 w1.heap.size A := ((((hb3.below hB4).below hB5).grown hg6 (by omega)).below hB7).grown hg8 (by omega)
 have hx2 : Blk w8 w4.heap.size B := ((hb6.below hB7).grown hg8 (by omega))
 have hB5' := below_step (below_step hB3 hB4) hB5
 have hB6' := hB5'.grown hg6 hB5'.size (fun k e => by cases e; omega)
 have hB7' := below_step hB6' hB7
 have HBW : Aside0 (Below w.heap.size w w8) := ⟨hB7'.grown hg8 hB7'.size (fun k e => by cases e; omega)⟩
 have HXA := Aside0.mk hx1; have HXB := Aside0.mk hx2; have HXO := Aside0.mk hb8
 have HCA := Aside0.mk hA; have HCB := Aside0.mk hB; have HCO := Aside0.mk hO
 obtain ⟨ga, hga⟩ : ∃ g, g = w1.heap.size := ⟨_, rfl⟩
 obtain ⟨gb, hgb⟩ : ∃ g, g = w4.heap.size := ⟨_, rfl⟩
 obtain ⟨go, hgo⟩ : ∃ g, g = w6.heap.size := ⟨_, rfl⟩
 have HNE : Aside0 (ga ≠ go ∧ gb ≠ go) := ⟨by omega⟩
 have HGE : Aside0 (w.heap.size ≤ go) := ⟨by omega⟩
 rw [← hga] at HXA ⊢
 rw [← hgb] at HXB ⊢
 rw [← hgo] at HXO ⊢
 clear hga hgb hgo hx1 hx2 hA hB hO hZ hb2 hB2 hs2 hb3 hg3 hB3 hB4 hB1 hZ5 hb5 hB5 hs5 hb6 hg6 hZ7 hb7 hB7 hs7 hb8 hg8 hl3 hl4 hl6 hs3 hs6 hs1 hB5' hB6' hB7' HFA HFB
 go_upto_region 4 with (fail)
 by_cases h1 : op = 1
 ·subst h1
  have HR1 : Aside0 (r1 = (doB 1 a b y).1) := ⟨by rw [HR.out]⟩
  have HR2 : Aside0 (r2 = (doB 1 a b y).2) := ⟨by rw [HR.out]⟩
  clear HR
  go_upto_region 7 with (fail)
  apply wp_region_lit
  refine s_load rfl _ rfl rfl HXA.out HCA.out ?_
  refine s_load rfl _ rfl rfl HXB.out HCB.out ?_
  go_wp2_with fail
  refine (add_calls A B a b false _ HCA.out HCB.out).mono ?_
  rintro e w5 ⟨D, rfl, hD, hB5⟩
  have HXO := Aside0.mk (HXO.out.below hB5); have HXA := Aside0.mk (HXA.out.below hB5); have HXB := Aside0.mk (HXB.out.below hB5); have HBW := Aside0.mk (below_step HBW.out hB5)
  have HD := Aside0.mk hD
  clear hB5 hD
  go_upto_region 67 with (refine s_store rfl _ _ rfl rfl rfl HXO.out HCO.out HD.out ?_; intro w8 hb8 hg8; have HXA := Aside0.mk (HXA.out.grown hg8 HNE.out.1); have HXB := Aside0.mk (HXB.out.grown hg8 HNE.out.2); have HBW := Aside0.mk (HBW.out.grown hg8 HBW.out.size (fun k e => by cases e; exact HGE.out)); have HXO := Aside0.mk hb8; have HCO := Aside0.mk HD.out; clear hb8 hg8)
  go_upto_region 67 with (fail)
  apply wp_region_lit
  refine s_load rfl _ rfl rfl HXO.out HCO.out ?_
  go_wp2_with fail
  obtain ⟨z, hz⟩ : ∃ z, z = ((a + b + ofB false) : BitVec 64).toInt := ⟨_, rfl⟩
  refine (To_calls _ (a + b + ofB false) _ HCO.out).mono ?_
  rintro e w9 ⟨rfl, hB9⟩
  rw [← hz]
  have HZ := Aside0.mk hz
  clear hz
  go_wp2
  go_ret2
  exact ⟨by rw [HR1.out, HR2.out, HZ.out]; rfl, below_step HBW.out hB9⟩
 by_cases h2 : op = 2
 ·subst h2
  have HR1 : Aside0 (r1 = (doB 2 a b y).1) := ⟨by rw [HR.out]⟩
  have HR2 : Aside0 (r2 = (doB 2 a b y).2) := ⟨by rw [HR.out]⟩
  clear HR
  obtain ⟨ws, hws⟩ : ∃ z, z = w8 := ⟨_, rfl⟩
  rw [← hws] at HXA HXB HXO HBW ⊢
  clear hws
  go_upto_region 9 with (fail)
  refine start_ (n := 5) (S := fun w' => Below ws.heap.size ws w') (ds := [4]) #[false, false, false, false, false] (by kernel_rfl) rfl rfl ((below_drew1 (Below.refl _ _))) (fun hHeld => ?_)
  refine with_tabW Do.tab9 Do.bits9 (fun HT_ HW_ => ?_)
  refine take_ (i := 0) (N := some 30) (v := .agg A) (a' := ?_) #[true, false, false, false, false] rfl rfl (take_ofW HT_.out HW_.out (by kernel_rfl)) (fun _ _ _ h => h) (Or.inl ⟨by rfl, ?_⟩) hHeld ?_ ?_
  ·intro w' s0
   exact ex_ld _ rfl rfl (HXA.out.below s0) HCA.out
  rotate_left
  ·simp only [Act.put, List.setIfInBounds_toArray, List.set_cons_zero, List.set_cons_succ, i64_w, i32_w]
   rfl
  refine take_ (i := 1) (N := some 31) (v := .agg B) (a' := ?_) #[true, true, false, false, false] rfl rfl (take_ofW HT_.out HW_.out (by kernel_rfl)) (fun _ _ _ h => h) (Or.inl ⟨by rfl, ?_⟩) hHeld ?_ ?_
  ·intro w' s0
   exact ex_ld _ rfl rfl (HXB.out.below s0) HCB.out
  rotate_left
  ·simp only [Act.put, List.setIfInBounds_toArray, List.set_cons_zero, List.set_cons_succ, i64_w, i32_w]
   rfl
  refine one_ (i := 2) (N := some 32) #[true, true, true, false, false] rfl rfl (one_of HT_.out (by kernel_rfl)) (by decide) (fun K hK => ?_)
  refine goes_ Tryd.func30 (by kernel_rfl) rfl #[.agg B] (by rfl) rfl rfl (by simp only [List.map_toArray, List.map_cons, List.map_nil]; rfl) ?_
  refine (not_calls B _ _ HCB.out).mono ?_
  rintro e w902 ⟨D2, rfl, hD2, hb⟩
  refine ⟨_, rfl, ?_⟩
  have HD2 := Aside0.mk hD2
  clear hD2
  refine hK.out _ _ (below_step hHeld hb) (fun hHeld => ?_)
  clear hK K
  refine norm_ (a' := ?_) ?_ ?_
  rotate_left
  ·show Act.put _ (some 32) _ = _
   simp only [Act.put, List.setIfInBounds_toArray, List.set_cons_zero, List.set_cons_succ, i64_w, i32_w]
   rfl
  refine one_ (i := 3) (N := some 33) #[true, true, true, true, false] rfl rfl (one_of HT_.out (by kernel_rfl)) (by decide) (fun K hK => ?_)
  refine goes_ Tryd.func29 (by kernel_rfl) rfl #[.agg A, .agg D2, .bool true] (by rfl) rfl rfl (by simp only [List.map_toArray, List.map_cons, List.map_nil]; rfl) ?_
  refine (add_calls A D2 a (~~~b) true _ HCA.out (HD2.out.congr (fun i hi => by simp [hi]))).mono ?_
  rintro e w903 ⟨D3, rfl, hD3, hb⟩
  refine ⟨_, rfl, ?_⟩
  have HD3 := Aside0.mk hD3
  clear hD3
  have HXO3 := Aside0.mk (HXO.out.below (below_step hHeld hb))
  have HB3 := Aside0.mk (below_step hHeld hb)
  refine hK.out _ _ (below_step hHeld hb) (fun hHeld => ?_)
  clear hK K
  refine norm_ (a' := ?_) ?_ ?_
  rotate_left
  ·show Act.put _ (some 33) _ = _
   simp only [Act.put, List.setIfInBounds_toArray, List.set_cons_zero, List.set_cons_succ, i64_w, i32_w]
   rfl
  refine last_ (i := 4) (N := none) #[true, true, true, true, true] rfl rfl (one_of HT_.out (by kernel_rfl)) (by decide) (fun K hK => ?_)
  refine skip_ (by rfl) rfl (ex_st _ _ rfl rfl rfl HXO3.out HCO.out HD3.out) ?_
  refine hK.out _ _ ?_
  clear hK K
  refine done_ (done_of HT_.out (by kernel_rfl)) ?_
  have HXO := Aside0.mk (HXO3.out.row D3)
  have HGR := Aside0.mk (grownBy_setRow (w := w903) (g := go) (D := D3))
  have HXA := Aside0.mk ((HXA.out.below HB3.out).grown HGR.out HNE.out.1); have HXB := Aside0.mk ((HXB.out.below HB3.out).grown HGR.out HNE.out.2); have HBW := Aside0.mk ((below_step HBW.out HB3.out).grown HGR.out (below_step HBW.out HB3.out).size (fun k e => by cases e; exact HGE.out))
  have HCO := Aside0.mk HD3.out
  clear HGR hHeld HXO3 HB3
  generalize w903.setRow go D3 = wn at HXO HXA HXB HBW ⊢
  go_upto_region 67 with (fail)
  apply wp_region_lit
  refine s_load rfl _ rfl rfl HXO.out HCO.out ?_
  go_wp2_with fail
  obtain ⟨z, hz⟩ : ∃ z, z = ((a + ~~~b + ofB true) : BitVec 64).toInt := ⟨_, rfl⟩
  refine (To_calls _ (a + ~~~b + ofB true) _ HCO.out).mono ?_
  rintro e w9 ⟨rfl, hB9⟩
  rw [← hz]
  have HZ := Aside0.mk hz
  clear hz
  go_wp2
  go_ret2
  exact ⟨by rw [HR1.out, HR2.out, HZ.out]; rfl, below_step HBW.out hB9⟩
 by_cases h3 : op = 3
 ·subst h3
  have HR1 : Aside0 (r1 = (doB 3 a b y).1) := ⟨by rw [HR.out]⟩
  have HR2 : Aside0 (r2 = (doB 3 a b y).2) := ⟨by rw [HR.out]⟩
  clear HR
  go_upto_region 12 with (fail)
  have H0 : Aside0 (Bits O (fun j => (BitVec.ofNat 64 (a.toNat * (b.toNat % 2 ^ 0))).getLsbD j)) := ⟨HCO.out.congr (fun i _ => by simp [off, Nat.mod_one])⟩
  go_loopw [11] (fun v11 wr => ∃ (i : Nat) (D : Array Value), v11 = .int .i64 i ∧ i ≤ 64 ∧ Aside0 (Bits D (fun j => (BitVec.ofNat 64 (a.toNat * (b.toNat % 2 ^ i))).getLsbD j)) ∧ Aside0 (Blk wr go D) ∧ Aside0 (Blk wr ga A) ∧ Aside0 (Blk wr gb B) ∧ Aside0 (Below w.heap.size w wr)) (fun v11 _ => 64 - (intOf v11).toNat)
  case atStart => exact ⟨0, O, rfl, by decide, H0, HXO, HXA, HXB, HBW⟩
  case round =>
   clear H0 HXO HXA HXB HBW
   obtain ⟨ws, hws⟩ : ∃ z, z = wr := ⟨_, rfl⟩
   subst hws
   obtain ⟨i, D, rfl, hi, HD, HXO, HXA, HXB, HBW⟩ := hrel
   by_cases hlt : i < 64
   ·have hc1 := HXB.out.cell HCB.out hlt
    cases hb : b.getLsbD i with
    | true =>
     rw [hb] at hc1
     have HJ : Aside0 (BitVec.ofNat 64 (a.toNat * (b.toNat % 2 ^ i)) + (a <<< i) + ofB false = BitVec.ofNat 64 (a.toNat * (b.toNat % 2 ^ (i + 1)))) := ⟨mul_step a b i hlt hb⟩
     clear hb
     go_upto_region 15 with (fail)
     refine start_ (n := 6) (S := fun w' => Below ws.heap.size ws w') (ds := [5]) (tf 0 6) (by kernel_rfl) rfl rfl ((below_drew1 (Below.refl _ _))) (fun hHeld => ?_)
     refine with_tabW Do.tab15 Do.bits15 (fun HT_ HW_ => ?_)
     refine pure_ (i := 2) (N := some 45) (v := ?_) (a' := ?_) #[false, false, true, false, false, false] rfl rfl (any_of HT_.out (by kernel_rfl)) (fun _ _ _ h => h) (Or.inl ⟨by rfl, ?_⟩) ?_ ?_
     rotate_left
     ·intro w'
      go_simp
      with_reducible rfl
     rotate_left
     ·simp only [Act.put, List.setIfInBounds_toArray, List.set_cons_zero, List.set_cons_succ, i64_w, i32_w]
      rfl
     refine take_ (i := 0) (N := some 43) (v := .agg D) (a' := ?_) #[true, false, true, false, false, false] rfl rfl (take_ofW HT_.out HW_.out (by kernel_rfl)) (fun _ _ _ h => h) (Or.inl ⟨by rfl, ?_⟩) hHeld ?_ ?_
     ·intro w' s0
      exact ex_ld _ rfl rfl (HXO.out.below s0) HD.out
     rotate_left
     ·simp only [Act.put, List.setIfInBounds_toArray, List.set_cons_zero, List.set_cons_succ, i64_w, i32_w]
      rfl
     refine take_ (i := 1) (N := some 44) (v := .agg A) (a' := ?_) (tf 3 3) rfl rfl (take_ofW HT_.out HW_.out (by kernel_rfl)) (fun _ _ _ h => h) (Or.inl ⟨by rfl, ?_⟩) hHeld ?_ ?_
     ·intro w' s0
      exact ex_ld _ rfl rfl (HXA.out.below s0) HCA.out
     rotate_left
     ·simp only [Act.put, List.setIfInBounds_toArray, List.set_cons_zero, List.set_cons_succ, i64_w, i32_w]
      rfl
     refine one_ (i := 3) (N := some 46) (tf 4 2) rfl rfl (one_of HT_.out (by kernel_rfl)) (by decide) (fun K hK => ?_)
     refine goes_ Tryd.func31 (by kernel_rfl) rfl #[.agg A, .int .i64 i] (by rfl) rfl rfl (by simp only [List.map_toArray, List.map_cons, List.map_nil]; rfl) ?_
     refine (left_calls A _ i _ HCA.out (by omega)).mono ?_
     rintro e w903 ⟨D2, rfl, hD2, hb⟩
     refine ⟨_, rfl, ?_⟩
     have HD2 := Aside0.mk hD2
     clear hD2
     refine hK.out _ _ (below_step hHeld hb) (fun hHeld => ?_)
     clear hK K
     refine norm_ (a' := ?_) ?_ ?_
     rotate_left
     ·show Act.put _ (some 46) _ = _
      simp only [Act.put, List.setIfInBounds_toArray, List.set_cons_zero, List.set_cons_succ, i64_w, i32_w]
      rfl
     refine one_ (i := 4) (N := some 47) (tf 5 1) rfl rfl (one_of HT_.out (by kernel_rfl)) (by decide) (fun K hK => ?_)
     refine goes_ Tryd.func29 (by kernel_rfl) rfl #[.agg D, .agg D2, .bool false] (by rfl) rfl rfl (by simp only [List.map_toArray, List.map_cons, List.map_nil]; rfl) ?_
     refine (add_calls D D2 (BitVec.ofNat 64 (a.toNat * (b.toNat % 2 ^ i))) (a <<< i) false _ HD.out (HD2.out.congr (fun j hj => by rw [BitVec.getLsbD_shiftLeft]; by_cases h : j < i <;> simp [hj, h] <;> omega))).mono ?_
     rintro e w904 ⟨D3, rfl, hD3, hb⟩
     refine ⟨_, rfl, ?_⟩
     have HD3 := Aside0.mk hD3
     clear hD3
     have HXO3 := Aside0.mk (HXO.out.below (below_step hHeld hb))
     have HB3 := Aside0.mk (below_step hHeld hb)
     refine hK.out _ _ (below_step hHeld hb) (fun hHeld => ?_)
     clear hK K
     refine norm_ (a' := ?_) ?_ ?_
     rotate_left
     ·show Act.put _ (some 47) _ = _
      simp only [Act.put, List.setIfInBounds_toArray, List.set_cons_zero, List.set_cons_succ, i64_w, i32_w]
      rfl
     refine last_ (i := 5) (N := none) (tf 6 0) rfl rfl (one_of HT_.out (by kernel_rfl)) (by decide) (fun K hK => ?_)
     refine skip_ (by rfl) rfl (ex_st _ _ rfl rfl rfl HXO3.out HD.out HD3.out) ?_
     refine hK.out _ _ ?_
     clear hK K
     refine done_ (done_of HT_.out (by kernel_rfl)) ?_
     have HXO := Aside0.mk (HXO3.out.row D3)
     have HGR := Aside0.mk (grownBy_setRow (w := w904) (g := go) (D := D3))
     have HXA := Aside0.mk ((HXA.out.below HB3.out).grown HGR.out HNE.out.1); have HXB := Aside0.mk ((HXB.out.below HB3.out).grown HGR.out HNE.out.2); have HBW := Aside0.mk ((below_step HBW.out HB3.out).grown HGR.out (below_step HBW.out HB3.out).size (fun k e => by cases e; exact HGE.out))
     have HCO := Aside0.mk HD3.out
     clear HGR hHeld HXO3 HB3
     generalize w904.setRow go D3 = wn at HXO HXA HXB HBW ⊢
     clear hc1
     go_wp2
     refine ⟨⟨i + 1, D3, by simp, by omega, ⟨by rw [← HJ.out]; exact HD3.out⟩, HXO, HXA, HXB, HBW⟩, ?_⟩
     show 64 - ((i : Int) + 1).toNat < 64 - (i : Int).toNat
     omega
    | false =>
     rw [hb] at hc1
     have HJ : Aside0 (b.toNat % 2 ^ (i + 1) = b.toNat % 2 ^ i) := ⟨by
      have h1 := x64 (b := b) hlt
      rw [hb] at h1
      rw [Nat.mod_pow_succ, h1]; simp⟩
     clear hb
     go_wp2
     refine ⟨⟨i + 1, D, by simp, by omega, ⟨by rw [HJ.out]; exact HD.out⟩, HXO, HXA, HXB, HBW⟩, ?_⟩
     show 64 - ((i : Int) + 1).toNat < 64 - (i : Int).toNat
     omega
   ·have e : i = 64 := by omega
    subst e
    have HCO : Aside0 (Bits D (fun j => (BitVec.ofNat 64 (a.toNat * b.toNat)).getLsbD j)) := ⟨by have := HD.out; rw [Nat.mod_eq_of_lt b.isLt] at this; exact this⟩
    go_upto_region 67 with (fail)
    apply wp_region_lit
    refine s_load rfl _ rfl rfl HXO.out HCO.out ?_
    go_wp2_with fail
    obtain ⟨z, hz⟩ : ∃ z, z = ((BitVec.ofNat 64 (a.toNat * b.toNat)) : BitVec 64).toInt := ⟨_, rfl⟩
    refine (To_calls _ (BitVec.ofNat 64 (a.toNat * b.toNat)) _ HCO.out).mono ?_
    rintro e w9 ⟨rfl, hB9⟩
    rw [← hz]
    have HZ := Aside0.mk hz
    clear hz
    go_wp2
    go_ret2
    exact ⟨by rw [HR1.out, HR2.out, HZ.out]; rfl, below_step HBW.out hB9⟩
 by_cases h4 : op = 4
 ·subst h4
  have HR1 : Aside0 (r1 = (doB 4 a b y).1) := ⟨by rw [HR.out]⟩
  have HR2 : Aside0 (r2 = (doB 4 a b y).2) := ⟨by rw [HR.out]⟩
  clear HR
  obtain ⟨Z0, hZ0, hzz⟩ := zeroB'
  have HZ0 := Aside0.mk hZ0; have HZZ := Aside0.mk hzz
  clear hZ0 hzz
  go_upto_region 18 with (fail)
  apply wp_region_lit
  refine s_load rfl _ rfl rfl HXB.out HCB.out ?_
  refine s_build rfl rfl ?_
  intro Z9 hZ9
  have HZ9 := Aside0.mk (hZ9.congr (g := fun j => (0#64).getLsbD j) (fun i hi => by simp [off]))
  clear hZ9
  have heq := eq_run B Z9 b 0#64 HCB.out HZ9.out
  obtain ⟨ws, hws⟩ : ∃ z, z = w8 := ⟨_, rfl⟩
  rw [← hws] at HXA HXB HXO HBW ⊢
  clear hws
  obtain ⟨p, hp⟩ : ∃ p, p = a.getLsbD 63 := ⟨_, rfl⟩
  obtain ⟨q, hq⟩ : ∃ q, q = b.getLsbD 63 := ⟨_, rfl⟩
  have HPP := Aside0.mk hp; have HQQ := Aside0.mk hq
  by_cases hb0 : b = 0#64
  ·have he : (b == 0#64) = true := beq_iff_eq.mpr hb0
   rw [he] at heq
   have HQ1 : Aside0 (r1 = 0) := ⟨by rw [HR1.out]; unfold doB; rw [if_pos hb0]; rfl⟩
   have HQ2 : Aside0 (r2 = 11) := ⟨by rw [HR2.out]; unfold doB; rw [if_pos hb0]; rfl⟩
   clear hb0 he hp hq
   go_wp2
   go_ret2
   exact ⟨by rw [HQ1.out, HQ2.out]; rfl, HBW.out⟩
  ·have he : (b == 0#64) = false := beq_eq_false_iff_ne.mpr hb0
   rw [he] at heq
   have HR1q : Aside0 (r1 = (quoX p q (sizeBV a / sizeBV b)).toInt) := ⟨by rw [HR1.out, hp, hq]; unfold doB; rw [if_neg hb0]; rfl⟩
   have HR2q : Aside0 (r2 = 0) := ⟨by rw [HR2.out]; unfold doB; rw [if_neg hb0]; rfl⟩
   clear HR1 HR2
   have HR2 := HR2q
   have HPOS : Aside0 (0 < (sizeBV b).toNat) := ⟨size_pos hb0⟩
   clear hb0 he hp hq HR2q
   go_upto_region 20 with (fail)
   clear heq
   refine start_ (n := 12) (S := fun w' => Below ws.heap.size ws w') (ds := [11]) (tf 0 12) (by kernel_rfl) rfl rfl ((below_drew1 (Below.refl _ _))) (fun hHeld => ?_)
   refine with_tabW Do.tab20 Do.bits20 (fun HT_ HW_ => ?_)
   generalize ws.drew = w0d at hHeld ⊢
   refine take_ (i := 0) (N := some 55) (v := .agg A) (a' := ?_) (tf 1 11) rfl rfl (take_ofW HT_.out HW_.out (by kernel_rfl)) (fun _ _ _ h => h) (Or.inl ⟨by rfl, ?_⟩) hHeld ?_ ?_
   ·intro w' s0
    exact ex_ld _ rfl rfl (HXA.out.below s0) HCA.out
   rotate_left
   ·simp only [Act.put, List.setIfInBounds_toArray, List.set_cons_zero, List.set_cons_succ, i64_w, i32_w]
    rfl
   refine take_ (i := 2) (N := some 57) (v := .agg B) (a' := ?_) #[true, false, true, false, false, false, false, false, false, false, false, false] rfl rfl (take_ofW HT_.out HW_.out (by kernel_rfl)) (fun _ _ _ h => h) (Or.inl ⟨by rfl, ?_⟩) hHeld ?_ ?_
   ·intro w' s0
    exact ex_ld _ rfl rfl (HXB.out.below s0) HCB.out
   rotate_left
   ·simp only [Act.put, List.setIfInBounds_toArray, List.set_cons_zero, List.set_cons_succ, i64_w, i32_w]
    rfl
   refine join_ (σ := Array Value × Array Value × Array Value × Array Value × Nat × Nat) 2 (tf 10 2) (fun s => [(56, .agg s.1), (58, .agg s.2.1), (59, .tuple #[.agg s.2.2.1, .agg s.2.2.2.1]), (54, .tuple #[.agg s.2.2.1, .agg s.2.2.2.1]), (60, .agg s.2.2.1), (61, .agg s.2.2.2.1), (12, .pointer (some ⟨s.2.2.2.2.1, 0, none⟩)), (13, .pointer (some ⟨s.2.2.2.2.2, 0, none⟩))]) (fun s w' => Below ws.heap.size ws w' ∧ Bits s.1 (fun j => (sizeBV a).getLsbD j) ∧ Bits s.2.1 (fun j => (sizeBV b).getLsbD j) ∧ Bits s.2.2.1 (fun j => (sizeBV a / sizeBV b).getLsbD j) ∧ Bits s.2.2.2.1 (fun j => (sizeBV a % sizeBV b).getLsbD j) ∧ Blk w' s.2.2.2.2.1 Z0 ∧ ws.heap.size ≤ s.2.2.2.2.1 ∧ Blk w' s.2.2.2.2.2 Z0 ∧ ws.heap.size ≤ s.2.2.2.2.2 ∧ s.2.2.2.2.1 ≠ s.2.2.2.2.2) ?_ ?_
   rotate_left
   ·intro hJ1_3_4_8_9
    refine join_ (σ := Array Value × Array Value × Array Value × Array Value × Nat × Nat) 3 (tf 9 3) (fun s => [(56, .agg s.1), (58, .agg s.2.1), (59, .tuple #[.agg s.2.2.1, .agg s.2.2.2.1]), (54, .tuple #[.agg s.2.2.1, .agg s.2.2.2.1]), (60, .agg s.2.2.1), (61, .agg s.2.2.2.1), (12, .pointer (some ⟨s.2.2.2.2.1, 0, none⟩))]) (fun s w' => Below ws.heap.size ws w' ∧ Bits s.1 (fun j => (sizeBV a).getLsbD j) ∧ Bits s.2.1 (fun j => (sizeBV b).getLsbD j) ∧ Bits s.2.2.1 (fun j => (sizeBV a / sizeBV b).getLsbD j) ∧ Bits s.2.2.2.1 (fun j => (sizeBV a % sizeBV b).getLsbD j) ∧ Blk w' s.2.2.2.2.1 Z0 ∧ ws.heap.size ≤ s.2.2.2.2.1) ?_ ?_
    rotate_left
    ·intro hJ1_3_4_8
     refine join_ (σ := Array Value × Array Value × Array Value × Array Value × Nat × Nat) 3 #[true, true, true, true, true, true, true, true, false, true, false, false] (fun s => [(56, .agg s.1), (58, .agg s.2.1), (59, .tuple #[.agg s.2.2.1, .agg s.2.2.2.1]), (54, .tuple #[.agg s.2.2.1, .agg s.2.2.2.1]), (60, .agg s.2.2.1), (61, .agg s.2.2.2.1), (13, .pointer (some ⟨s.2.2.2.2.2, 0, none⟩))]) (fun s w' => Below ws.heap.size ws w' ∧ Bits s.1 (fun j => (sizeBV a).getLsbD j) ∧ Bits s.2.1 (fun j => (sizeBV b).getLsbD j) ∧ Bits s.2.2.1 (fun j => (sizeBV a / sizeBV b).getLsbD j) ∧ Bits s.2.2.2.1 (fun j => (sizeBV a % sizeBV b).getLsbD j) ∧ Blk w' s.2.2.2.2.2 Z0 ∧ ws.heap.size ≤ s.2.2.2.2.2) ?_ ?_
     rotate_left
     ·intro hJ1_3_4_9
      refine join_ (σ := Array Value × Array Value × Array Value × Array Value × Nat × Nat) 6 #[true, true, true, true, false, false, false, false, true, true, false, false] (fun s => [(56, .agg s.1), (58, .agg s.2.1), (12, .pointer (some ⟨s.2.2.2.2.1, 0, none⟩)), (13, .pointer (some ⟨s.2.2.2.2.2, 0, none⟩))]) (fun s w' => Below ws.heap.size ws w' ∧ Bits s.1 (fun j => (sizeBV a).getLsbD j) ∧ Bits s.2.1 (fun j => (sizeBV b).getLsbD j) ∧ Blk w' s.2.2.2.2.1 Z0 ∧ ws.heap.size ≤ s.2.2.2.2.1 ∧ Blk w' s.2.2.2.2.2 Z0 ∧ ws.heap.size ≤ s.2.2.2.2.2 ∧ s.2.2.2.2.1 ≠ s.2.2.2.2.2) ?_ ?_
      rotate_left
      ·intro hJ1_3_8_9
       refine join_ (σ := Array Value × Array Value × Array Value × Array Value × Nat × Nat) 4 (tf 8 4) (fun s => [(56, .agg s.1), (58, .agg s.2.1), (59, .tuple #[.agg s.2.2.1, .agg s.2.2.2.1]), (54, .tuple #[.agg s.2.2.1, .agg s.2.2.2.1]), (60, .agg s.2.2.1), (61, .agg s.2.2.2.1)]) (fun s w' => Below ws.heap.size ws w' ∧ Bits s.1 (fun j => (sizeBV a).getLsbD j) ∧ Bits s.2.1 (fun j => (sizeBV b).getLsbD j) ∧ Bits s.2.2.1 (fun j => (sizeBV a / sizeBV b).getLsbD j) ∧ Bits s.2.2.2.1 (fun j => (sizeBV a % sizeBV b).getLsbD j)) ?_ ?_
       rotate_left
       ·intro hJ1_3_4
        refine join_ (σ := Array Value × Array Value × Array Value × Array Value × Nat × Nat) 7 #[true, true, true, true, false, false, false, false, true, false, false, false] (fun s => [(56, .agg s.1), (58, .agg s.2.1), (12, .pointer (some ⟨s.2.2.2.2.1, 0, none⟩))]) (fun s w' => Below ws.heap.size ws w' ∧ Bits s.1 (fun j => (sizeBV a).getLsbD j) ∧ Bits s.2.1 (fun j => (sizeBV b).getLsbD j) ∧ Blk w' s.2.2.2.2.1 Z0 ∧ ws.heap.size ≤ s.2.2.2.2.1) ?_ ?_
        rotate_left
        ·intro hJ1_3_8
         refine join_ (σ := Array Value × Array Value × Array Value × Array Value × Nat × Nat) 7 #[true, true, true, true, false, false, false, false, false, true, false, false] (fun s => [(56, .agg s.1), (58, .agg s.2.1), (13, .pointer (some ⟨s.2.2.2.2.2, 0, none⟩))]) (fun s w' => Below ws.heap.size ws w' ∧ Bits s.1 (fun j => (sizeBV a).getLsbD j) ∧ Bits s.2.1 (fun j => (sizeBV b).getLsbD j) ∧ Blk w' s.2.2.2.2.2 Z0 ∧ ws.heap.size ≤ s.2.2.2.2.2) ?_ ?_
         rotate_left
         ·intro hJ1_3_9
          refine join_ (σ := Array Value × Array Value × Array Value × Array Value × Nat × Nat) 7 #[true, true, true, false, false, false, false, false, true, true, false, false] (fun s => [(56, .agg s.1), (12, .pointer (some ⟨s.2.2.2.2.1, 0, none⟩)), (13, .pointer (some ⟨s.2.2.2.2.2, 0, none⟩))]) (fun s w' => Below ws.heap.size ws w' ∧ Bits s.1 (fun j => (sizeBV a).getLsbD j) ∧ Blk w' s.2.2.2.2.1 Z0 ∧ ws.heap.size ≤ s.2.2.2.2.1 ∧ Blk w' s.2.2.2.2.2 Z0 ∧ ws.heap.size ≤ s.2.2.2.2.2 ∧ s.2.2.2.2.1 ≠ s.2.2.2.2.2) ?_ ?_
          rotate_left
          ·intro hJ1_8_9
           refine join_ (σ := Array Value × Array Value × Array Value × Array Value × Nat × Nat) 8 (tf 4 8) (fun s => [(56, .agg s.1), (58, .agg s.2.1)]) (fun s w' => Below ws.heap.size ws w' ∧ Bits s.1 (fun j => (sizeBV a).getLsbD j) ∧ Bits s.2.1 (fun j => (sizeBV b).getLsbD j)) ?_ ?_
           rotate_left
           ·intro hJ1_3
            refine join_ (σ := Array Value × Array Value × Array Value × Array Value × Nat × Nat) 8 #[true, true, true, false, false, false, false, false, true, false, false, false] (fun s => [(56, .agg s.1), (12, .pointer (some ⟨s.2.2.2.2.1, 0, none⟩))]) (fun s w' => Below ws.heap.size ws w' ∧ Bits s.1 (fun j => (sizeBV a).getLsbD j) ∧ Blk w' s.2.2.2.2.1 Z0 ∧ ws.heap.size ≤ s.2.2.2.2.1) ?_ ?_
            rotate_left
            ·intro hJ1_8
             refine join_ (σ := Array Value × Array Value × Array Value × Array Value × Nat × Nat) 8 #[true, true, true, false, false, false, false, false, false, true, false, false] (fun s => [(56, .agg s.1), (13, .pointer (some ⟨s.2.2.2.2.2, 0, none⟩))]) (fun s w' => Below ws.heap.size ws w' ∧ Bits s.1 (fun j => (sizeBV a).getLsbD j) ∧ Blk w' s.2.2.2.2.2 Z0 ∧ ws.heap.size ≤ s.2.2.2.2.2) ?_ ?_
             rotate_left
             ·intro hJ1_9
              refine join_ (σ := Array Value × Array Value × Array Value × Array Value × Nat × Nat) 8 #[true, false, true, false, false, false, false, false, true, true, false, false] (fun s => [(12, .pointer (some ⟨s.2.2.2.2.1, 0, none⟩)), (13, .pointer (some ⟨s.2.2.2.2.2, 0, none⟩))]) (fun s w' => Below ws.heap.size ws w' ∧ Blk w' s.2.2.2.2.1 Z0 ∧ ws.heap.size ≤ s.2.2.2.2.1 ∧ Blk w' s.2.2.2.2.2 Z0 ∧ ws.heap.size ≤ s.2.2.2.2.2 ∧ s.2.2.2.2.1 ≠ s.2.2.2.2.2) ?_ ?_
              rotate_left
              ·intro hJ8_9
               refine join_ (σ := Array Value × Array Value × Array Value × Array Value × Nat × Nat) 9 (tf 3 9) (fun s => [(56, .agg s.1)]) (fun s w' => Below ws.heap.size ws w' ∧ Bits s.1 (fun j => (sizeBV a).getLsbD j)) ?_ ?_
               rotate_left
               ·intro hJ1
                refine join_ (σ := Array Value × Array Value × Array Value × Array Value × Nat × Nat) 9 #[true, false, true, false, false, false, false, false, true, false, false, false] (fun s => [(12, .pointer (some ⟨s.2.2.2.2.1, 0, none⟩))]) (fun s w' => Below ws.heap.size ws w' ∧ Blk w' s.2.2.2.2.1 Z0 ∧ ws.heap.size ≤ s.2.2.2.2.1) ?_ ?_
                rotate_left
                ·intro hJ8
                 refine join_ (σ := Array Value × Array Value × Array Value × Array Value × Nat × Nat) 9 #[true, false, true, false, false, false, false, false, false, true, false, false] (fun s => [(13, .pointer (some ⟨s.2.2.2.2.2, 0, none⟩))]) (fun s w' => Below ws.heap.size ws w' ∧ Blk w' s.2.2.2.2.2 Z0 ∧ ws.heap.size ≤ s.2.2.2.2.2) ?_ ?_
                 rotate_left
                 ·intro hJ9
                  refine three_ (i := 1) (j := 8) (k := 9) (Ni := some 56) (Nj := some 12) (Nk := some 13) (tf 3 9) #[true, false, true, false, false, false, false, false, true, false, false, false] #[true, false, true, false, false, false, false, false, false, true, false, false] rfl rfl rfl rfl rfl rfl (three_of HT_.out (by kernel_rfl)) (by decide) (by decide) (by decide) (fun K hK => ?_) (fun K hK => ?_) (fun K hK => ?_)
                  ·skip
                   have hOld := hHeld
                   refine goes_ Tryd.func33 (by kernel_rfl) rfl #[.agg A] (by rfl) rfl rfl (by simp only [List.map_toArray, List.map_cons, List.map_nil]; rfl) ?_
                   refine (size_calls A a _ HCA.out).mono ?_
                   rintro e wnx1 ⟨SA', rfl, hSA, hb⟩
                   refine ⟨_, rfl, ?_⟩
                   refine hK.out _ _ ((below_step hHeld hb)) (fun hHeld => ?_)
                   clear hK K
                   refine norm_ (a' := ?_) ?_ ?_
                   rotate_left
                   ·show Act.put _ (some 56) _ = _
                    simp only [Act.put, List.setIfInBounds_toArray, List.set_cons_zero, List.set_cons_succ, i64_w, i32_w]
                    rfl
                   exact norm_ (by first | (simp only [putAll, Act.put, List.setIfInBounds_toArray, List.set_cons_zero, List.set_cons_succ]; done) | (simp only [putAll, Act.put, List.setIfInBounds_toArray, List.set_cons_zero, List.set_cons_succ]; rfl)) (hJ1 (SA', #[], #[], #[], 0, 0) _ ⟨hHeld, hSA⟩)
                  ·skip
                   have hOld := hHeld
                   refine value_ (by rfl) rfl (ex_alloc rfl HZZ.out) ?_
                   refine hK.out _ _ ((below_alloc hHeld _)) (fun hHeld => ?_)
                   clear hK K
                   refine norm_ (a' := ?_) ?_ ?_
                   rotate_left
                   ·show Act.put _ (some 12) _ = _
                    simp only [Act.put, List.setIfInBounds_toArray, List.set_cons_zero, List.set_cons_succ, i64_w, i32_w]
                    rfl
                   exact norm_ (by first | (simp only [putAll, Act.put, List.setIfInBounds_toArray, List.set_cons_zero, List.set_cons_succ]; done) | (simp only [putAll, Act.put, List.setIfInBounds_toArray, List.set_cons_zero, List.set_cons_succ]; rfl)) (hJ8 (#[], #[], #[], #[], w0d.heap.size, 0) _ ⟨hHeld, (blk_new _ _), hOld.size⟩)
                  ·skip
                   have hOld := hHeld
                   refine value_ (by rfl) rfl (ex_alloc rfl HZZ.out) ?_
                   refine hK.out _ _ ((below_alloc hHeld _)) (fun hHeld => ?_)
                   clear hK K
                   refine norm_ (a' := ?_) ?_ ?_
                   rotate_left
                   ·show Act.put _ (some 13) _ = _
                    simp only [Act.put, List.setIfInBounds_toArray, List.set_cons_zero, List.set_cons_succ, i64_w, i32_w]
                    rfl
                   exact norm_ (by first | (simp only [putAll, Act.put, List.setIfInBounds_toArray, List.set_cons_zero, List.set_cons_succ]; done) | (simp only [putAll, Act.put, List.setIfInBounds_toArray, List.set_cons_zero, List.set_cons_succ]; rfl)) (hJ9 (#[], #[], #[], #[], 0, w0d.heap.size) _ ⟨hHeld, (blk_new _ _), hOld.size⟩)
                 ·skip
                  rintro ⟨SA, SB, Q, R, g8, g9⟩ wd9 ⟨hHeld, f9, l9⟩
                  refine norm_ (a' := ?_) ?_ ?_
                  rotate_left
                  ·simp only [putAll, Act.put, List.setIfInBounds_toArray, List.set_cons_zero, List.set_cons_succ]
                   rfl
                  refine two_ (i := 1) (j := 8) (Ni := some 56) (Nj := some 12) #[true, true, true, false, false, false, false, false, false, true, false, false] #[true, false, true, false, false, false, false, false, true, true, false, false] rfl rfl rfl rfl (two_of HT_.out (by kernel_rfl)) (by decide) (by decide) (fun K hK => ?_) (fun K hK => ?_)
                  ·skip
                   have hOld := hHeld
                   refine goes_ Tryd.func33 (by kernel_rfl) rfl #[.agg A] (by rfl) rfl rfl (by simp only [List.map_toArray, List.map_cons, List.map_nil]; rfl) ?_
                   refine (size_calls A a _ HCA.out).mono ?_
                   rintro e wn9x1 ⟨SA', rfl, hSA, hb⟩
                   refine ⟨_, rfl, ?_⟩
                   refine hK.out _ _ ((below_step hHeld hb)) (fun hHeld => ?_)
                   clear hK K
                   refine norm_ (a' := ?_) ?_ ?_
                   rotate_left
                   ·show Act.put _ (some 56) _ = _
                    simp only [Act.put, List.setIfInBounds_toArray, List.set_cons_zero, List.set_cons_succ, i64_w, i32_w]
                    rfl
                   exact norm_ (by first | (simp only [putAll, Act.put, List.setIfInBounds_toArray, List.set_cons_zero, List.set_cons_succ]; done) | (simp only [putAll, Act.put, List.setIfInBounds_toArray, List.set_cons_zero, List.set_cons_succ]; rfl)) (hJ1_9 (SA', #[], #[], #[], 0, g9) _ ⟨hHeld, hSA, (f9.below hb), l9⟩)
                  ·skip
                   have hOld := hHeld
                   refine value_ (by rfl) rfl (ex_alloc rfl HZZ.out) ?_
                   refine hK.out _ _ ((below_alloc hHeld _)) (fun hHeld => ?_)
                   clear hK K
                   refine norm_ (a' := ?_) ?_ ?_
                   rotate_left
                   ·show Act.put _ (some 12) _ = _
                    simp only [Act.put, List.setIfInBounds_toArray, List.set_cons_zero, List.set_cons_succ, i64_w, i32_w]
                    rfl
                   exact norm_ (by first | (simp only [putAll, Act.put, List.setIfInBounds_toArray, List.set_cons_zero, List.set_cons_succ]; done) | (simp only [putAll, Act.put, List.setIfInBounds_toArray, List.set_cons_zero, List.set_cons_succ]; rfl)) (hJ8_9 (#[], #[], #[], #[], wd9.heap.size, g9) _ ⟨hHeld, (blk_new _ _), hOld.size, (f9.below (below_alloc (Below.refl _ _) _)), l9, (Nat.ne_of_gt f9.lt)⟩)
                ·skip
                 rintro ⟨SA, SB, Q, R, g8, g9⟩ wd8 ⟨hHeld, f8, l8⟩
                 refine norm_ (a' := ?_) ?_ ?_
                 rotate_left
                 ·simp only [putAll, Act.put, List.setIfInBounds_toArray, List.set_cons_zero, List.set_cons_succ]
                  rfl
                 refine two_ (i := 1) (j := 9) (Ni := some 56) (Nj := some 13) #[true, true, true, false, false, false, false, false, true, false, false, false] #[true, false, true, false, false, false, false, false, true, true, false, false] rfl rfl rfl rfl (two_of HT_.out (by kernel_rfl)) (by decide) (by decide) (fun K hK => ?_) (fun K hK => ?_)
                 ·skip
                  have hOld := hHeld
                  refine goes_ Tryd.func33 (by kernel_rfl) rfl #[.agg A] (by rfl) rfl rfl (by simp only [List.map_toArray, List.map_cons, List.map_nil]; rfl) ?_
                  refine (size_calls A a _ HCA.out).mono ?_
                  rintro e wn8x1 ⟨SA', rfl, hSA, hb⟩
                  refine ⟨_, rfl, ?_⟩
                  refine hK.out _ _ ((below_step hHeld hb)) (fun hHeld => ?_)
                  clear hK K
                  refine norm_ (a' := ?_) ?_ ?_
                  rotate_left
                  ·show Act.put _ (some 56) _ = _
                   simp only [Act.put, List.setIfInBounds_toArray, List.set_cons_zero, List.set_cons_succ, i64_w, i32_w]
                   rfl
                  exact norm_ (by first | (simp only [putAll, Act.put, List.setIfInBounds_toArray, List.set_cons_zero, List.set_cons_succ]; done) | (simp only [putAll, Act.put, List.setIfInBounds_toArray, List.set_cons_zero, List.set_cons_succ]; rfl)) (hJ1_8 (SA', #[], #[], #[], g8, 0) _ ⟨hHeld, hSA, (f8.below hb), l8⟩)
                 ·skip
                  have hOld := hHeld
                  refine value_ (by rfl) rfl (ex_alloc rfl HZZ.out) ?_
                  refine hK.out _ _ ((below_alloc hHeld _)) (fun hHeld => ?_)
                  clear hK K
                  refine norm_ (a' := ?_) ?_ ?_
                  rotate_left
                  ·show Act.put _ (some 13) _ = _
                   simp only [Act.put, List.setIfInBounds_toArray, List.set_cons_zero, List.set_cons_succ, i64_w, i32_w]
                   rfl
                  exact norm_ (by first | (simp only [putAll, Act.put, List.setIfInBounds_toArray, List.set_cons_zero, List.set_cons_succ]; done) | (simp only [putAll, Act.put, List.setIfInBounds_toArray, List.set_cons_zero, List.set_cons_succ]; rfl)) (hJ8_9 (#[], #[], #[], #[], g8, wd8.heap.size) _ ⟨hHeld, (f8.below (below_alloc (Below.refl _ _) _)), l8, (blk_new _ _), hOld.size, (Nat.ne_of_lt f8.lt)⟩)
               ·skip
                rintro ⟨SA, SB, Q, R, g8, g9⟩ wd1 ⟨hHeld, fA⟩
                refine norm_ (a' := ?_) ?_ ?_
                rotate_left
                ·simp only [putAll, Act.put, List.setIfInBounds_toArray, List.set_cons_zero, List.set_cons_succ]
                 rfl
                refine three_ (i := 3) (j := 8) (k := 9) (Ni := some 58) (Nj := some 12) (Nk := some 13) (tf 4 8) #[true, true, true, false, false, false, false, false, true, false, false, false] #[true, true, true, false, false, false, false, false, false, true, false, false] rfl rfl rfl rfl rfl rfl (three_of HT_.out (by kernel_rfl)) (by decide) (by decide) (by decide) (fun K hK => ?_) (fun K hK => ?_) (fun K hK => ?_)
                ·skip
                 have hOld := hHeld
                 refine goes_ Tryd.func33 (by kernel_rfl) rfl #[.agg B] (by rfl) rfl rfl (by simp only [List.map_toArray, List.map_cons, List.map_nil]; rfl) ?_
                 refine (size_calls B b _ HCB.out).mono ?_
                 rintro e wn1x3 ⟨SB', rfl, hSB, hb⟩
                 refine ⟨_, rfl, ?_⟩
                 refine hK.out _ _ ((below_step hHeld hb)) (fun hHeld => ?_)
                 clear hK K
                 refine norm_ (a' := ?_) ?_ ?_
                 rotate_left
                 ·show Act.put _ (some 58) _ = _
                  simp only [Act.put, List.setIfInBounds_toArray, List.set_cons_zero, List.set_cons_succ, i64_w, i32_w]
                  rfl
                 exact norm_ (by first | (simp only [putAll, Act.put, List.setIfInBounds_toArray, List.set_cons_zero, List.set_cons_succ]; done) | (simp only [putAll, Act.put, List.setIfInBounds_toArray, List.set_cons_zero, List.set_cons_succ]; rfl)) (hJ1_3 (SA, SB', #[], #[], 0, 0) _ ⟨hHeld, fA, hSB⟩)
                ·skip
                 have hOld := hHeld
                 refine value_ (by rfl) rfl (ex_alloc rfl HZZ.out) ?_
                 refine hK.out _ _ ((below_alloc hHeld _)) (fun hHeld => ?_)
                 clear hK K
                 refine norm_ (a' := ?_) ?_ ?_
                 rotate_left
                 ·show Act.put _ (some 12) _ = _
                  simp only [Act.put, List.setIfInBounds_toArray, List.set_cons_zero, List.set_cons_succ, i64_w, i32_w]
                  rfl
                 exact norm_ (by first | (simp only [putAll, Act.put, List.setIfInBounds_toArray, List.set_cons_zero, List.set_cons_succ]; done) | (simp only [putAll, Act.put, List.setIfInBounds_toArray, List.set_cons_zero, List.set_cons_succ]; rfl)) (hJ1_8 (SA, #[], #[], #[], wd1.heap.size, 0) _ ⟨hHeld, fA, (blk_new _ _), hOld.size⟩)
                ·skip
                 have hOld := hHeld
                 refine value_ (by rfl) rfl (ex_alloc rfl HZZ.out) ?_
                 refine hK.out _ _ ((below_alloc hHeld _)) (fun hHeld => ?_)
                 clear hK K
                 refine norm_ (a' := ?_) ?_ ?_
                 rotate_left
                 ·show Act.put _ (some 13) _ = _
                  simp only [Act.put, List.setIfInBounds_toArray, List.set_cons_zero, List.set_cons_succ, i64_w, i32_w]
                  rfl
                 exact norm_ (by first | (simp only [putAll, Act.put, List.setIfInBounds_toArray, List.set_cons_zero, List.set_cons_succ]; done) | (simp only [putAll, Act.put, List.setIfInBounds_toArray, List.set_cons_zero, List.set_cons_succ]; rfl)) (hJ1_9 (SA, #[], #[], #[], 0, wd1.heap.size) _ ⟨hHeld, fA, (blk_new _ _), hOld.size⟩)
              ·skip
               rintro ⟨SA, SB, Q, R, g8, g9⟩ wd8_9 ⟨hHeld, f8, l8, f9, l9, f89⟩
               refine norm_ (a' := ?_) ?_ ?_
               rotate_left
               ·simp only [putAll, Act.put, List.setIfInBounds_toArray, List.set_cons_zero, List.set_cons_succ]
                rfl
               refine one_ (i := 1) (N := some 56) #[true, true, true, false, false, false, false, false, true, true, false, false] rfl rfl (one_of HT_.out (by kernel_rfl)) (by decide) (fun K hK => ?_)
               have hOld := hHeld
               refine goes_ Tryd.func33 (by kernel_rfl) rfl #[.agg A] (by rfl) rfl rfl (by simp only [List.map_toArray, List.map_cons, List.map_nil]; rfl) ?_
               refine (size_calls A a _ HCA.out).mono ?_
               rintro e wn8_9x1 ⟨SA', rfl, hSA, hb⟩
               refine ⟨_, rfl, ?_⟩
               refine hK.out _ _ ((below_step hHeld hb)) (fun hHeld => ?_)
               clear hK K
               refine norm_ (a' := ?_) ?_ ?_
               rotate_left
               ·show Act.put _ (some 56) _ = _
                simp only [Act.put, List.setIfInBounds_toArray, List.set_cons_zero, List.set_cons_succ, i64_w, i32_w]
                rfl
               exact norm_ (by first | (simp only [putAll, Act.put, List.setIfInBounds_toArray, List.set_cons_zero, List.set_cons_succ]; done) | (simp only [putAll, Act.put, List.setIfInBounds_toArray, List.set_cons_zero, List.set_cons_succ]; rfl)) (hJ1_8_9 (SA', #[], #[], #[], g8, g9) _ ⟨hHeld, hSA, (f8.below hb), l8, (f9.below hb), l9, f89⟩)
             ·skip
              rintro ⟨SA, SB, Q, R, g8, g9⟩ wd1_9 ⟨hHeld, fA, f9, l9⟩
              refine norm_ (a' := ?_) ?_ ?_
              rotate_left
              ·simp only [putAll, Act.put, List.setIfInBounds_toArray, List.set_cons_zero, List.set_cons_succ]
               rfl
              refine two_ (i := 3) (j := 8) (Ni := some 58) (Nj := some 12) #[true, true, true, true, false, false, false, false, false, true, false, false] #[true, true, true, false, false, false, false, false, true, true, false, false] rfl rfl rfl rfl (two_of HT_.out (by kernel_rfl)) (by decide) (by decide) (fun K hK => ?_) (fun K hK => ?_)
              ·skip
               have hOld := hHeld
               refine goes_ Tryd.func33 (by kernel_rfl) rfl #[.agg B] (by rfl) rfl rfl (by simp only [List.map_toArray, List.map_cons, List.map_nil]; rfl) ?_
               refine (size_calls B b _ HCB.out).mono ?_
               rintro e wn1_9x3 ⟨SB', rfl, hSB, hb⟩
               refine ⟨_, rfl, ?_⟩
               refine hK.out _ _ ((below_step hHeld hb)) (fun hHeld => ?_)
               clear hK K
               refine norm_ (a' := ?_) ?_ ?_
               rotate_left
               ·show Act.put _ (some 58) _ = _
                simp only [Act.put, List.setIfInBounds_toArray, List.set_cons_zero, List.set_cons_succ, i64_w, i32_w]
                rfl
               exact norm_ (by first | (simp only [putAll, Act.put, List.setIfInBounds_toArray, List.set_cons_zero, List.set_cons_succ]; done) | (simp only [putAll, Act.put, List.setIfInBounds_toArray, List.set_cons_zero, List.set_cons_succ]; rfl)) (hJ1_3_9 (SA, SB', #[], #[], 0, g9) _ ⟨hHeld, fA, hSB, (f9.below hb), l9⟩)
              ·skip
               have hOld := hHeld
               refine value_ (by rfl) rfl (ex_alloc rfl HZZ.out) ?_
               refine hK.out _ _ ((below_alloc hHeld _)) (fun hHeld => ?_)
               clear hK K
               refine norm_ (a' := ?_) ?_ ?_
               rotate_left
               ·show Act.put _ (some 12) _ = _
                simp only [Act.put, List.setIfInBounds_toArray, List.set_cons_zero, List.set_cons_succ, i64_w, i32_w]
                rfl
               exact norm_ (by first | (simp only [putAll, Act.put, List.setIfInBounds_toArray, List.set_cons_zero, List.set_cons_succ]; done) | (simp only [putAll, Act.put, List.setIfInBounds_toArray, List.set_cons_zero, List.set_cons_succ]; rfl)) (hJ1_8_9 (SA, #[], #[], #[], wd1_9.heap.size, g9) _ ⟨hHeld, fA, (blk_new _ _), hOld.size, (f9.below (below_alloc (Below.refl _ _) _)), l9, (Nat.ne_of_gt f9.lt)⟩)
            ·skip
             rintro ⟨SA, SB, Q, R, g8, g9⟩ wd1_8 ⟨hHeld, fA, f8, l8⟩
             refine norm_ (a' := ?_) ?_ ?_
             rotate_left
             ·simp only [putAll, Act.put, List.setIfInBounds_toArray, List.set_cons_zero, List.set_cons_succ]
              rfl
             refine two_ (i := 3) (j := 9) (Ni := some 58) (Nj := some 13) #[true, true, true, true, false, false, false, false, true, false, false, false] #[true, true, true, false, false, false, false, false, true, true, false, false] rfl rfl rfl rfl (two_of HT_.out (by kernel_rfl)) (by decide) (by decide) (fun K hK => ?_) (fun K hK => ?_)
             ·skip
              have hOld := hHeld
              refine goes_ Tryd.func33 (by kernel_rfl) rfl #[.agg B] (by rfl) rfl rfl (by simp only [List.map_toArray, List.map_cons, List.map_nil]; rfl) ?_
              refine (size_calls B b _ HCB.out).mono ?_
              rintro e wn1_8x3 ⟨SB', rfl, hSB, hb⟩
              refine ⟨_, rfl, ?_⟩
              refine hK.out _ _ ((below_step hHeld hb)) (fun hHeld => ?_)
              clear hK K
              refine norm_ (a' := ?_) ?_ ?_
              rotate_left
              ·show Act.put _ (some 58) _ = _
               simp only [Act.put, List.setIfInBounds_toArray, List.set_cons_zero, List.set_cons_succ, i64_w, i32_w]
               rfl
              exact norm_ (by first | (simp only [putAll, Act.put, List.setIfInBounds_toArray, List.set_cons_zero, List.set_cons_succ]; done) | (simp only [putAll, Act.put, List.setIfInBounds_toArray, List.set_cons_zero, List.set_cons_succ]; rfl)) (hJ1_3_8 (SA, SB', #[], #[], g8, 0) _ ⟨hHeld, fA, hSB, (f8.below hb), l8⟩)
             ·skip
              have hOld := hHeld
              refine value_ (by rfl) rfl (ex_alloc rfl HZZ.out) ?_
              refine hK.out _ _ ((below_alloc hHeld _)) (fun hHeld => ?_)
              clear hK K
              refine norm_ (a' := ?_) ?_ ?_
              rotate_left
              ·show Act.put _ (some 13) _ = _
               simp only [Act.put, List.setIfInBounds_toArray, List.set_cons_zero, List.set_cons_succ, i64_w, i32_w]
               rfl
              exact norm_ (by first | (simp only [putAll, Act.put, List.setIfInBounds_toArray, List.set_cons_zero, List.set_cons_succ]; done) | (simp only [putAll, Act.put, List.setIfInBounds_toArray, List.set_cons_zero, List.set_cons_succ]; rfl)) (hJ1_8_9 (SA, #[], #[], #[], g8, wd1_8.heap.size) _ ⟨hHeld, fA, (f8.below (below_alloc (Below.refl _ _) _)), l8, (blk_new _ _), hOld.size, (Nat.ne_of_lt f8.lt)⟩)
           ·skip
            rintro ⟨SA, SB, Q, R, g8, g9⟩ wd1_3 ⟨hHeld, fA, fB⟩
            refine norm_ (a' := ?_) ?_ ?_
            rotate_left
            ·simp only [putAll, Act.put, List.setIfInBounds_toArray, List.set_cons_zero, List.set_cons_succ]
             rfl
            refine three_ (i := 4) (j := 8) (k := 9) (Ni := some 59) (Nj := some 12) (Nk := some 13) (tf 5 7) #[true, true, true, true, false, false, false, false, true, false, false, false] #[true, true, true, true, false, false, false, false, false, true, false, false] rfl rfl rfl rfl rfl rfl (three_of HT_.out (by kernel_rfl)) (by decide) (by decide) (by decide) (fun K hK => ?_) (fun K hK => ?_) (fun K hK => ?_)
            ·skip
             have hOld := hHeld
             refine goes_ Tryd.func32 (by kernel_rfl) rfl #[.agg SA, .agg SB] (by rfl) rfl rfl (by simp only [List.map_toArray, List.map_cons, List.map_nil]; rfl) ?_
             refine (divide_calls SA SB (sizeBV a) (sizeBV b) _ fA fB HPOS.out).mono ?_
             rintro e wn1_3x4 ⟨Q', R', rfl, hQ, hR, hb⟩
             refine ⟨_, rfl, ?_⟩
             refine hK.out _ _ ((below_step hHeld hb)) (fun hHeld => ?_)
             clear hK K
             refine norm_ (a' := ?_) ?_ ?_
             rotate_left
             ·show Act.put _ (some 59) _ = _
              simp only [Act.put, List.setIfInBounds_toArray, List.set_cons_zero, List.set_cons_succ, i64_w, i32_w]
              rfl
             refine pure_ (i := 5) (N := some 54) (v := ?_) (a' := ?_) (tf 6 6) rfl rfl (any_of HT_.out (by kernel_rfl)) (fun _ _ _ h => h) (Or.inl ⟨by rfl, ?_⟩) ?_ ?_
             rotate_left
             ·intro w'
              go_simp
              with_reducible rfl
             rotate_left
             ·simp only [Act.put, List.setIfInBounds_toArray, List.set_cons_zero, List.set_cons_succ, i64_w, i32_w]
              rfl
             refine pure_ (i := 6) (N := some 60) (v := ?_) (a' := ?_) (tf 7 5) rfl rfl (any_of HT_.out (by kernel_rfl)) (fun _ _ _ h => h) (Or.inl ⟨by rfl, ?_⟩) ?_ ?_
             rotate_left
             ·intro w'
              go_simp
              with_reducible rfl
             rotate_left
             ·simp only [Act.put, List.setIfInBounds_toArray, List.set_cons_zero, List.set_cons_succ, i64_w, i32_w]
              rfl
             refine pure_ (i := 7) (N := some 61) (v := ?_) (a' := ?_) (tf 8 4) rfl rfl (any_of HT_.out (by kernel_rfl)) (fun _ _ _ h => h) (Or.inl ⟨by rfl, ?_⟩) ?_ ?_
             rotate_left
             ·intro w'
              go_simp
              with_reducible rfl
             rotate_left
             ·simp only [Act.put, List.setIfInBounds_toArray, List.set_cons_zero, List.set_cons_succ, i64_w, i32_w]
              rfl
             exact norm_ (by first | (simp only [putAll, Act.put, List.setIfInBounds_toArray, List.set_cons_zero, List.set_cons_succ]; done) | (simp only [putAll, Act.put, List.setIfInBounds_toArray, List.set_cons_zero, List.set_cons_succ]; rfl)) (hJ1_3_4 (SA, SB, Q', R', 0, 0) _ ⟨hHeld, fA, fB, hQ, hR⟩)
            ·skip
             have hOld := hHeld
             refine value_ (by rfl) rfl (ex_alloc rfl HZZ.out) ?_
             refine hK.out _ _ ((below_alloc hHeld _)) (fun hHeld => ?_)
             clear hK K
             refine norm_ (a' := ?_) ?_ ?_
             rotate_left
             ·show Act.put _ (some 12) _ = _
              simp only [Act.put, List.setIfInBounds_toArray, List.set_cons_zero, List.set_cons_succ, i64_w, i32_w]
              rfl
             exact norm_ (by first | (simp only [putAll, Act.put, List.setIfInBounds_toArray, List.set_cons_zero, List.set_cons_succ]; done) | (simp only [putAll, Act.put, List.setIfInBounds_toArray, List.set_cons_zero, List.set_cons_succ]; rfl)) (hJ1_3_8 (SA, SB, #[], #[], wd1_3.heap.size, 0) _ ⟨hHeld, fA, fB, (blk_new _ _), hOld.size⟩)
            ·skip
             have hOld := hHeld
             refine value_ (by rfl) rfl (ex_alloc rfl HZZ.out) ?_
             refine hK.out _ _ ((below_alloc hHeld _)) (fun hHeld => ?_)
             clear hK K
             refine norm_ (a' := ?_) ?_ ?_
             rotate_left
             ·show Act.put _ (some 13) _ = _
              simp only [Act.put, List.setIfInBounds_toArray, List.set_cons_zero, List.set_cons_succ, i64_w, i32_w]
              rfl
             exact norm_ (by first | (simp only [putAll, Act.put, List.setIfInBounds_toArray, List.set_cons_zero, List.set_cons_succ]; done) | (simp only [putAll, Act.put, List.setIfInBounds_toArray, List.set_cons_zero, List.set_cons_succ]; rfl)) (hJ1_3_9 (SA, SB, #[], #[], 0, wd1_3.heap.size) _ ⟨hHeld, fA, fB, (blk_new _ _), hOld.size⟩)
          ·skip
           rintro ⟨SA, SB, Q, R, g8, g9⟩ wd1_8_9 ⟨hHeld, fA, f8, l8, f9, l9, f89⟩
           refine norm_ (a' := ?_) ?_ ?_
           rotate_left
           ·simp only [putAll, Act.put, List.setIfInBounds_toArray, List.set_cons_zero, List.set_cons_succ]
            rfl
           refine one_ (i := 3) (N := some 58) #[true, true, true, true, false, false, false, false, true, true, false, false] rfl rfl (one_of HT_.out (by kernel_rfl)) (by decide) (fun K hK => ?_)
           have hOld := hHeld
           refine goes_ Tryd.func33 (by kernel_rfl) rfl #[.agg B] (by rfl) rfl rfl (by simp only [List.map_toArray, List.map_cons, List.map_nil]; rfl) ?_
           refine (size_calls B b _ HCB.out).mono ?_
           rintro e wn1_8_9x3 ⟨SB', rfl, hSB, hb⟩
           refine ⟨_, rfl, ?_⟩
           refine hK.out _ _ ((below_step hHeld hb)) (fun hHeld => ?_)
           clear hK K
           refine norm_ (a' := ?_) ?_ ?_
           rotate_left
           ·show Act.put _ (some 58) _ = _
            simp only [Act.put, List.setIfInBounds_toArray, List.set_cons_zero, List.set_cons_succ, i64_w, i32_w]
            rfl
           exact norm_ (by first | (simp only [putAll, Act.put, List.setIfInBounds_toArray, List.set_cons_zero, List.set_cons_succ]; done) | (simp only [putAll, Act.put, List.setIfInBounds_toArray, List.set_cons_zero, List.set_cons_succ]; rfl)) (hJ1_3_8_9 (SA, SB', #[], #[], g8, g9) _ ⟨hHeld, fA, hSB, (f8.below hb), l8, (f9.below hb), l9, f89⟩)
         ·skip
          rintro ⟨SA, SB, Q, R, g8, g9⟩ wd1_3_9 ⟨hHeld, fA, fB, f9, l9⟩
          refine norm_ (a' := ?_) ?_ ?_
          rotate_left
          ·simp only [putAll, Act.put, List.setIfInBounds_toArray, List.set_cons_zero, List.set_cons_succ]
           rfl
          refine two_ (i := 4) (j := 8) (Ni := some 59) (Nj := some 12) #[true, true, true, true, true, false, false, false, false, true, false, false] #[true, true, true, true, false, false, false, false, true, true, false, false] rfl rfl rfl rfl (two_of HT_.out (by kernel_rfl)) (by decide) (by decide) (fun K hK => ?_) (fun K hK => ?_)
          ·skip
           have hOld := hHeld
           refine goes_ Tryd.func32 (by kernel_rfl) rfl #[.agg SA, .agg SB] (by rfl) rfl rfl (by simp only [List.map_toArray, List.map_cons, List.map_nil]; rfl) ?_
           refine (divide_calls SA SB (sizeBV a) (sizeBV b) _ fA fB HPOS.out).mono ?_
           rintro e wn1_3_9x4 ⟨Q', R', rfl, hQ, hR, hb⟩
           refine ⟨_, rfl, ?_⟩
           refine hK.out _ _ ((below_step hHeld hb)) (fun hHeld => ?_)
           clear hK K
           refine norm_ (a' := ?_) ?_ ?_
           rotate_left
           ·show Act.put _ (some 59) _ = _
            simp only [Act.put, List.setIfInBounds_toArray, List.set_cons_zero, List.set_cons_succ, i64_w, i32_w]
            rfl
           refine pure_ (i := 5) (N := some 54) (v := ?_) (a' := ?_) #[true, true, true, true, true, true, false, false, false, true, false, false] rfl rfl (any_of HT_.out (by kernel_rfl)) (fun _ _ _ h => h) (Or.inl ⟨by rfl, ?_⟩) ?_ ?_
           rotate_left
           ·intro w'
            go_simp
            with_reducible rfl
           rotate_left
           ·simp only [Act.put, List.setIfInBounds_toArray, List.set_cons_zero, List.set_cons_succ, i64_w, i32_w]
            rfl
           refine pure_ (i := 6) (N := some 60) (v := ?_) (a' := ?_) #[true, true, true, true, true, true, true, false, false, true, false, false] rfl rfl (any_of HT_.out (by kernel_rfl)) (fun _ _ _ h => h) (Or.inl ⟨by rfl, ?_⟩) ?_ ?_
           rotate_left
           ·intro w'
            go_simp
            with_reducible rfl
           rotate_left
           ·simp only [Act.put, List.setIfInBounds_toArray, List.set_cons_zero, List.set_cons_succ, i64_w, i32_w]
            rfl
           refine pure_ (i := 7) (N := some 61) (v := ?_) (a' := ?_) #[true, true, true, true, true, true, true, true, false, true, false, false] rfl rfl (any_of HT_.out (by kernel_rfl)) (fun _ _ _ h => h) (Or.inl ⟨by rfl, ?_⟩) ?_ ?_
           rotate_left
           ·intro w'
            go_simp
            with_reducible rfl
           rotate_left
           ·simp only [Act.put, List.setIfInBounds_toArray, List.set_cons_zero, List.set_cons_succ, i64_w, i32_w]
            rfl
           exact norm_ (by first | (simp only [putAll, Act.put, List.setIfInBounds_toArray, List.set_cons_zero, List.set_cons_succ]; done) | (simp only [putAll, Act.put, List.setIfInBounds_toArray, List.set_cons_zero, List.set_cons_succ]; rfl)) (hJ1_3_4_9 (SA, SB, Q', R', 0, g9) _ ⟨hHeld, fA, fB, hQ, hR, (f9.below hb), l9⟩)
          ·skip
           have hOld := hHeld
           refine value_ (by rfl) rfl (ex_alloc rfl HZZ.out) ?_
           refine hK.out _ _ ((below_alloc hHeld _)) (fun hHeld => ?_)
           clear hK K
           refine norm_ (a' := ?_) ?_ ?_
           rotate_left
           ·show Act.put _ (some 12) _ = _
            simp only [Act.put, List.setIfInBounds_toArray, List.set_cons_zero, List.set_cons_succ, i64_w, i32_w]
            rfl
           exact norm_ (by first | (simp only [putAll, Act.put, List.setIfInBounds_toArray, List.set_cons_zero, List.set_cons_succ]; done) | (simp only [putAll, Act.put, List.setIfInBounds_toArray, List.set_cons_zero, List.set_cons_succ]; rfl)) (hJ1_3_8_9 (SA, SB, #[], #[], wd1_3_9.heap.size, g9) _ ⟨hHeld, fA, fB, (blk_new _ _), hOld.size, (f9.below (below_alloc (Below.refl _ _) _)), l9, (Nat.ne_of_gt f9.lt)⟩)
        ·skip
         rintro ⟨SA, SB, Q, R, g8, g9⟩ wd1_3_8 ⟨hHeld, fA, fB, f8, l8⟩
         refine norm_ (a' := ?_) ?_ ?_
         rotate_left
         ·simp only [putAll, Act.put, List.setIfInBounds_toArray, List.set_cons_zero, List.set_cons_succ]
          rfl
         refine two_ (i := 4) (j := 9) (Ni := some 59) (Nj := some 13) #[true, true, true, true, true, false, false, false, true, false, false, false] #[true, true, true, true, false, false, false, false, true, true, false, false] rfl rfl rfl rfl (two_of HT_.out (by kernel_rfl)) (by decide) (by decide) (fun K hK => ?_) (fun K hK => ?_)
         ·skip
          have hOld := hHeld
          refine goes_ Tryd.func32 (by kernel_rfl) rfl #[.agg SA, .agg SB] (by rfl) rfl rfl (by simp only [List.map_toArray, List.map_cons, List.map_nil]; rfl) ?_
          refine (divide_calls SA SB (sizeBV a) (sizeBV b) _ fA fB HPOS.out).mono ?_
          rintro e wn1_3_8x4 ⟨Q', R', rfl, hQ, hR, hb⟩
          refine ⟨_, rfl, ?_⟩
          refine hK.out _ _ ((below_step hHeld hb)) (fun hHeld => ?_)
          clear hK K
          refine norm_ (a' := ?_) ?_ ?_
          rotate_left
          ·show Act.put _ (some 59) _ = _
           simp only [Act.put, List.setIfInBounds_toArray, List.set_cons_zero, List.set_cons_succ, i64_w, i32_w]
           rfl
          refine pure_ (i := 5) (N := some 54) (v := ?_) (a' := ?_) #[true, true, true, true, true, true, false, false, true, false, false, false] rfl rfl (any_of HT_.out (by kernel_rfl)) (fun _ _ _ h => h) (Or.inl ⟨by rfl, ?_⟩) ?_ ?_
          rotate_left
          ·intro w'
           go_simp
           with_reducible rfl
          rotate_left
          ·simp only [Act.put, List.setIfInBounds_toArray, List.set_cons_zero, List.set_cons_succ, i64_w, i32_w]
           rfl
          refine pure_ (i := 6) (N := some 60) (v := ?_) (a' := ?_) #[true, true, true, true, true, true, true, false, true, false, false, false] rfl rfl (any_of HT_.out (by kernel_rfl)) (fun _ _ _ h => h) (Or.inl ⟨by rfl, ?_⟩) ?_ ?_
          rotate_left
          ·intro w'
           go_simp
           with_reducible rfl
          rotate_left
          ·simp only [Act.put, List.setIfInBounds_toArray, List.set_cons_zero, List.set_cons_succ, i64_w, i32_w]
           rfl
          refine pure_ (i := 7) (N := some 61) (v := ?_) (a' := ?_) (tf 9 3) rfl rfl (any_of HT_.out (by kernel_rfl)) (fun _ _ _ h => h) (Or.inl ⟨by rfl, ?_⟩) ?_ ?_
          rotate_left
          ·intro w'
           go_simp
           with_reducible rfl
          rotate_left
          ·simp only [Act.put, List.setIfInBounds_toArray, List.set_cons_zero, List.set_cons_succ, i64_w, i32_w]
           rfl
          exact norm_ (by first | (simp only [putAll, Act.put, List.setIfInBounds_toArray, List.set_cons_zero, List.set_cons_succ]; done) | (simp only [putAll, Act.put, List.setIfInBounds_toArray, List.set_cons_zero, List.set_cons_succ]; rfl)) (hJ1_3_4_8 (SA, SB, Q', R', g8, 0) _ ⟨hHeld, fA, fB, hQ, hR, (f8.below hb), l8⟩)
         ·skip
          have hOld := hHeld
          refine value_ (by rfl) rfl (ex_alloc rfl HZZ.out) ?_
          refine hK.out _ _ ((below_alloc hHeld _)) (fun hHeld => ?_)
          clear hK K
          refine norm_ (a' := ?_) ?_ ?_
          rotate_left
          ·show Act.put _ (some 13) _ = _
           simp only [Act.put, List.setIfInBounds_toArray, List.set_cons_zero, List.set_cons_succ, i64_w, i32_w]
           rfl
          exact norm_ (by first | (simp only [putAll, Act.put, List.setIfInBounds_toArray, List.set_cons_zero, List.set_cons_succ]; done) | (simp only [putAll, Act.put, List.setIfInBounds_toArray, List.set_cons_zero, List.set_cons_succ]; rfl)) (hJ1_3_8_9 (SA, SB, #[], #[], g8, wd1_3_8.heap.size) _ ⟨hHeld, fA, fB, (f8.below (below_alloc (Below.refl _ _) _)), l8, (blk_new _ _), hOld.size, (Nat.ne_of_lt f8.lt)⟩)
       ·skip
        rintro ⟨SA, SB, Q, R, g8, g9⟩ wd1_3_4 ⟨hHeld, fA, fB, fQ, fR⟩
        refine norm_ (a' := ?_) ?_ ?_
        rotate_left
        ·simp only [putAll, Act.put, List.setIfInBounds_toArray, List.set_cons_zero, List.set_cons_succ]
         rfl
        refine two_ (i := 8) (j := 9) (Ni := some 12) (Nj := some 13) (tf 9 3) #[true, true, true, true, true, true, true, true, false, true, false, false] rfl rfl rfl rfl (two_of HT_.out (by kernel_rfl)) (by decide) (by decide) (fun K hK => ?_) (fun K hK => ?_)
        ·skip
         have hOld := hHeld
         refine value_ (by rfl) rfl (ex_alloc rfl HZZ.out) ?_
         refine hK.out _ _ ((below_alloc hHeld _)) (fun hHeld => ?_)
         clear hK K
         refine norm_ (a' := ?_) ?_ ?_
         rotate_left
         ·show Act.put _ (some 12) _ = _
          simp only [Act.put, List.setIfInBounds_toArray, List.set_cons_zero, List.set_cons_succ, i64_w, i32_w]
          rfl
         exact norm_ (by first | (simp only [putAll, Act.put, List.setIfInBounds_toArray, List.set_cons_zero, List.set_cons_succ]; done) | (simp only [putAll, Act.put, List.setIfInBounds_toArray, List.set_cons_zero, List.set_cons_succ]; rfl)) (hJ1_3_4_8 (SA, SB, Q, R, wd1_3_4.heap.size, 0) _ ⟨hHeld, fA, fB, fQ, fR, (blk_new _ _), hOld.size⟩)
        ·skip
         have hOld := hHeld
         refine value_ (by rfl) rfl (ex_alloc rfl HZZ.out) ?_
         refine hK.out _ _ ((below_alloc hHeld _)) (fun hHeld => ?_)
         clear hK K
         refine norm_ (a' := ?_) ?_ ?_
         rotate_left
         ·show Act.put _ (some 13) _ = _
          simp only [Act.put, List.setIfInBounds_toArray, List.set_cons_zero, List.set_cons_succ, i64_w, i32_w]
          rfl
         exact norm_ (by first | (simp only [putAll, Act.put, List.setIfInBounds_toArray, List.set_cons_zero, List.set_cons_succ]; done) | (simp only [putAll, Act.put, List.setIfInBounds_toArray, List.set_cons_zero, List.set_cons_succ]; rfl)) (hJ1_3_4_9 (SA, SB, Q, R, 0, wd1_3_4.heap.size) _ ⟨hHeld, fA, fB, fQ, fR, (blk_new _ _), hOld.size⟩)
      ·skip
       rintro ⟨SA, SB, Q, R, g8, g9⟩ wd1_3_8_9 ⟨hHeld, fA, fB, f8, l8, f9, l9, f89⟩
       refine norm_ (a' := ?_) ?_ ?_
       rotate_left
       ·simp only [putAll, Act.put, List.setIfInBounds_toArray, List.set_cons_zero, List.set_cons_succ]
        rfl
       refine one_ (i := 4) (N := some 59) #[true, true, true, true, true, false, false, false, true, true, false, false] rfl rfl (one_of HT_.out (by kernel_rfl)) (by decide) (fun K hK => ?_)
       have hOld := hHeld
       refine goes_ Tryd.func32 (by kernel_rfl) rfl #[.agg SA, .agg SB] (by rfl) rfl rfl (by simp only [List.map_toArray, List.map_cons, List.map_nil]; rfl) ?_
       refine (divide_calls SA SB (sizeBV a) (sizeBV b) _ fA fB HPOS.out).mono ?_
       rintro e wn1_3_8_9x4 ⟨Q', R', rfl, hQ, hR, hb⟩
       refine ⟨_, rfl, ?_⟩
       refine hK.out _ _ ((below_step hHeld hb)) (fun hHeld => ?_)
       clear hK K
       refine norm_ (a' := ?_) ?_ ?_
       rotate_left
       ·show Act.put _ (some 59) _ = _
        simp only [Act.put, List.setIfInBounds_toArray, List.set_cons_zero, List.set_cons_succ, i64_w, i32_w]
        rfl
       refine pure_ (i := 5) (N := some 54) (v := ?_) (a' := ?_) #[true, true, true, true, true, true, false, false, true, true, false, false] rfl rfl (any_of HT_.out (by kernel_rfl)) (fun _ _ _ h => h) (Or.inl ⟨by rfl, ?_⟩) ?_ ?_
       rotate_left
       ·intro w'
        go_simp
        with_reducible rfl
       rotate_left
       ·simp only [Act.put, List.setIfInBounds_toArray, List.set_cons_zero, List.set_cons_succ, i64_w, i32_w]
        rfl
       refine pure_ (i := 6) (N := some 60) (v := ?_) (a' := ?_) #[true, true, true, true, true, true, true, false, true, true, false, false] rfl rfl (any_of HT_.out (by kernel_rfl)) (fun _ _ _ h => h) (Or.inl ⟨by rfl, ?_⟩) ?_ ?_
       rotate_left
       ·intro w'
        go_simp
        with_reducible rfl
       rotate_left
       ·simp only [Act.put, List.setIfInBounds_toArray, List.set_cons_zero, List.set_cons_succ, i64_w, i32_w]
        rfl
       refine pure_ (i := 7) (N := some 61) (v := ?_) (a' := ?_) (tf 10 2) rfl rfl (any_of HT_.out (by kernel_rfl)) (fun _ _ _ h => h) (Or.inl ⟨by rfl, ?_⟩) ?_ ?_
       rotate_left
       ·intro w'
        go_simp
        with_reducible rfl
       rotate_left
       ·simp only [Act.put, List.setIfInBounds_toArray, List.set_cons_zero, List.set_cons_succ, i64_w, i32_w]
        rfl
       exact norm_ (by first | (simp only [putAll, Act.put, List.setIfInBounds_toArray, List.set_cons_zero, List.set_cons_succ]; done) | (simp only [putAll, Act.put, List.setIfInBounds_toArray, List.set_cons_zero, List.set_cons_succ]; rfl)) (hJ1_3_4_8_9 (SA, SB, Q', R', g8, g9) _ ⟨hHeld, fA, fB, hQ, hR, (f8.below hb), l8, (f9.below hb), l9, f89⟩)
     ·skip
      rintro ⟨SA, SB, Q, R, g8, g9⟩ wd1_3_4_9 ⟨hHeld, fA, fB, fQ, fR, f9, l9⟩
      refine norm_ (a' := ?_) ?_ ?_
      rotate_left
      ·simp only [putAll, Act.put, List.setIfInBounds_toArray, List.set_cons_zero, List.set_cons_succ]
       rfl
      refine one_ (i := 8) (N := some 12) (tf 10 2) rfl rfl (one_of HT_.out (by kernel_rfl)) (by decide) (fun K hK => ?_)
      have hOld := hHeld
      refine value_ (by rfl) rfl (ex_alloc rfl HZZ.out) ?_
      refine hK.out _ _ ((below_alloc hHeld _)) (fun hHeld => ?_)
      clear hK K
      refine norm_ (a' := ?_) ?_ ?_
      rotate_left
      ·show Act.put _ (some 12) _ = _
       simp only [Act.put, List.setIfInBounds_toArray, List.set_cons_zero, List.set_cons_succ, i64_w, i32_w]
       rfl
      exact norm_ (by first | (simp only [putAll, Act.put, List.setIfInBounds_toArray, List.set_cons_zero, List.set_cons_succ]; done) | (simp only [putAll, Act.put, List.setIfInBounds_toArray, List.set_cons_zero, List.set_cons_succ]; rfl)) (hJ1_3_4_8_9 (SA, SB, Q, R, wd1_3_4_9.heap.size, g9) _ ⟨hHeld, fA, fB, fQ, fR, (blk_new _ _), hOld.size, (f9.below (below_alloc (Below.refl _ _) _)), l9, (Nat.ne_of_gt f9.lt)⟩)
    ·skip
     rintro ⟨SA, SB, Q, R, g8, g9⟩ wd1_3_4_8 ⟨hHeld, fA, fB, fQ, fR, f8, l8⟩
     refine norm_ (a' := ?_) ?_ ?_
     rotate_left
     ·simp only [putAll, Act.put, List.setIfInBounds_toArray, List.set_cons_zero, List.set_cons_succ]
      rfl
     refine one_ (i := 9) (N := some 13) (tf 10 2) rfl rfl (one_of HT_.out (by kernel_rfl)) (by decide) (fun K hK => ?_)
     have hOld := hHeld
     refine value_ (by rfl) rfl (ex_alloc rfl HZZ.out) ?_
     refine hK.out _ _ ((below_alloc hHeld _)) (fun hHeld => ?_)
     clear hK K
     refine norm_ (a' := ?_) ?_ ?_
     rotate_left
     ·show Act.put _ (some 13) _ = _
      simp only [Act.put, List.setIfInBounds_toArray, List.set_cons_zero, List.set_cons_succ, i64_w, i32_w]
      rfl
     exact norm_ (by first | (simp only [putAll, Act.put, List.setIfInBounds_toArray, List.set_cons_zero, List.set_cons_succ]; done) | (simp only [putAll, Act.put, List.setIfInBounds_toArray, List.set_cons_zero, List.set_cons_succ]; rfl)) (hJ1_3_4_8_9 (SA, SB, Q, R, g8, wd1_3_4_8.heap.size) _ ⟨hHeld, fA, fB, fQ, fR, (f8.below (below_alloc (Below.refl _ _) _)), l8, (blk_new _ _), hOld.size, (Nat.ne_of_lt f8.lt)⟩)
   rintro ⟨SA, SB, Q, R, g8, g9⟩ wd1_3_4_8_9 ⟨hHeld, fA, fB, fQ, fR, f8, l8, f9, l9, f89⟩
   refine norm_ (a' := ?_) ?_ ?_
   rotate_left
   ·simp only [putAll, Act.put, List.setIfInBounds_toArray, List.set_cons_zero, List.set_cons_succ]
    rfl
   refine one_ (i := 10) (N := none) (tf 11 1) rfl rfl (one_of HT_.out (by kernel_rfl)) (by decide) (fun K hK => ?_)
   refine skip_ (by rfl) rfl (ex_st _ _ rfl rfl rfl f8 HZ0.out fQ) ?_
   refine hK.out _ _ ((hHeld.grown grownBy_setRow hHeld.size (fun k e => by cases e; exact l8))) (fun hHeld => ?_)
   clear hK K
   refine last_ (i := 11) (N := none) (tf 12 0) rfl rfl (one_of HT_.out (by kernel_rfl)) (by decide) (fun K hK => ?_)
   refine skip_ (by rfl) rfl (ex_st _ _ rfl rfl rfl (f9.grown (grownBy_setRow (D := Q)) (Ne.symm f89)) HZ0.out fR) ?_
   refine hK.out _ _ ?_
   clear hK K
   refine done_ (done_of HT_.out (by kernel_rfl)) ?_
   have HB20 := Aside0.mk (hHeld.grown (grownBy_setRow (g := g9) (D := R)) hHeld.size (fun k e => by cases e; exact l9))
   have HXQ := Aside0.mk ((f8.row Q).grown (grownBy_setRow (g := g9) (D := R)) f89)
   have HXR := Aside0.mk (Blk.row (f9.grown (grownBy_setRow (g := g8) (D := Q)) (Ne.symm f89)) R)
   have HFQ := Aside0.mk fQ; have HFR := Aside0.mk fR
   have HN8 : Aside0 (g8 ≠ go ∧ g9 ≠ go) := ⟨Nat.ne_of_gt (Nat.lt_of_lt_of_le HXO.out.lt l8), Nat.ne_of_gt (Nat.lt_of_lt_of_le HXO.out.lt l9)⟩
   have HXA := Aside0.mk (HXA.out.below HB20.out); have HXB := Aside0.mk (HXB.out.below HB20.out); have HXO := Aside0.mk (HXO.out.below HB20.out); have HBW := Aside0.mk (below_step HBW.out HB20.out)
   clear hHeld fA fB fQ fR f8 l8 f9 l9 f89 HB20
   generalize (wd1_3_4_8_9.setRow g8 Q).setRow g9 R = wf at HXA HXB HXO HBW HXQ HXR ⊢
   go_upto_region 21 with (fail)
   apply wp_region_lit
   refine s_load rfl _ rfl rfl HXQ.out HFQ.out ?_
   refine s_store rfl _ _ rfl rfl rfl HXO.out HCO.out HFQ.out ?_
   intro w8 hb8 hg8
   have HXA := Aside0.mk (HXA.out.grown hg8 HNE.out.1); have HXB := Aside0.mk (HXB.out.grown hg8 HNE.out.2); have HBW := Aside0.mk (HBW.out.grown hg8 HBW.out.size (fun k e => by cases e; exact HGE.out)); have HXQ := Aside0.mk (HXQ.out.grown hg8 HN8.out.1); have HXR := Aside0.mk (HXR.out.grown hg8 HN8.out.2)
   have HXO := Aside0.mk hb8
   have HCO := Aside0.mk HFQ.out
   clear hb8 hg8
   have hcp := HXA.out.cell HCA.out (i := 63) (by decide)
   have hcq := HXB.out.cell HCB.out (i := 63) (by decide)
   rw [← HPP.out] at hcp
   rw [← HQQ.out] at hcq
   by_cases hpq : p = q
   ·have hpq0 : (p == q) = true := by rw [hpq]; simp
    have HR1 : Aside0 (r1 = (sizeBV a / sizeBV b).toInt) := ⟨by rw [HR1q.out]; unfold quoX; rw [if_pos hpq]⟩
    clear hpq
    go_upto_region 67 with (fail)
    apply wp_region_lit
    refine s_load rfl _ rfl rfl HXO.out HCO.out ?_
    go_wp2_with fail
    obtain ⟨z, hz⟩ : ∃ z, z = ((sizeBV a / sizeBV b) : BitVec 64).toInt := ⟨_, rfl⟩
    refine (To_calls _ (sizeBV a / sizeBV b) _ HCO.out).mono ?_
    rintro e w9 ⟨rfl, hB9⟩
    rw [← hz]
    have HZ := Aside0.mk hz
    clear hz
    go_wp2
    go_ret2
    exact ⟨by rw [HR1.out, HR2.out, HZ.out]; rfl, below_step HBW.out hB9⟩
   ·have hpq0 : (p == q) = false := by simpa using hpq
    have HR1 : Aside0 (r1 = (-(sizeBV a / sizeBV b)).toInt) := ⟨by rw [HR1q.out]; unfold quoX; rw [if_neg hpq]⟩
    clear hpq
    go_upto_region 23 with (fail)
    apply wp_region_lit
    refine s_load rfl _ rfl rfl HXQ.out HFQ.out ?_
    clear hcp hcq hpq0
    go_wp2_with fail
    refine (neg_calls Q _ _ HFQ.out).mono ?_
    rintro e w5 ⟨D, rfl, hD, hB5⟩
    have HXO := Aside0.mk (HXO.out.below hB5); have HXA := Aside0.mk (HXA.out.below hB5); have HXB := Aside0.mk (HXB.out.below hB5); have HBW := Aside0.mk (below_step HBW.out hB5); have HXQ := Aside0.mk (HXQ.out.below hB5); have HXR := Aside0.mk (HXR.out.below hB5)
    have HD := Aside0.mk hD
    clear hB5 hD
    go_upto_region 67 with (refine s_store rfl _ _ rfl rfl rfl HXO.out HCO.out HD.out ?_; intro w8 hb8 hg8; have HXA := Aside0.mk (HXA.out.grown hg8 HNE.out.1); have HXB := Aside0.mk (HXB.out.grown hg8 HNE.out.2); have HBW := Aside0.mk (HBW.out.grown hg8 HBW.out.size (fun k e => by cases e; exact HGE.out)); have HXQ := Aside0.mk (HXQ.out.grown hg8 HN8.out.1); have HXR := Aside0.mk (HXR.out.grown hg8 HN8.out.2); have HXO := Aside0.mk hb8; have HCO := Aside0.mk HD.out; clear hb8 hg8)
    go_upto_region 67 with (fail)
    apply wp_region_lit
    refine s_load rfl _ rfl rfl HXO.out HCO.out ?_
    go_wp2_with fail
    obtain ⟨z, hz⟩ : ∃ z, z = ((-(sizeBV a / sizeBV b)) : BitVec 64).toInt := ⟨_, rfl⟩
    refine (To_calls _ (-(sizeBV a / sizeBV b)) _ HCO.out).mono ?_
    rintro e w9 ⟨rfl, hB9⟩
    rw [← hz]
    have HZ := Aside0.mk hz
    clear hz
    go_wp2
    go_ret2
    exact ⟨by rw [HR1.out, HR2.out, HZ.out]; rfl, below_step HBW.out hB9⟩
 by_cases h5 : op = 5
 ·subst h5
  have HR1 : Aside0 (r1 = (doB 5 a b y).1) := ⟨by rw [HR.out]⟩
  have HR2 : Aside0 (r2 = (doB 5 a b y).2) := ⟨by rw [HR.out]⟩
  clear HR
  obtain ⟨Z0, hZ0, hzz⟩ := zeroB'
  have HZ0 := Aside0.mk hZ0; have HZZ := Aside0.mk hzz
  clear hZ0 hzz
  go_upto_region 18 with (fail)
  apply wp_region_lit
  refine s_load rfl _ rfl rfl HXB.out HCB.out ?_
  refine s_build rfl rfl ?_
  intro Z9 hZ9
  have HZ9 := Aside0.mk (hZ9.congr (g := fun j => (0#64).getLsbD j) (fun i hi => by simp [off]))
  clear hZ9
  have heq := eq_run B Z9 b 0#64 HCB.out HZ9.out
  obtain ⟨ws, hws⟩ : ∃ z, z = w8 := ⟨_, rfl⟩
  rw [← hws] at HXA HXB HXO HBW ⊢
  clear hws
  obtain ⟨p, hp⟩ : ∃ p, p = a.getLsbD 63 := ⟨_, rfl⟩
  obtain ⟨q, hq⟩ : ∃ q, q = b.getLsbD 63 := ⟨_, rfl⟩
  have HPP := Aside0.mk hp; have HQQ := Aside0.mk hq
  by_cases hb0 : b = 0#64
  ·have he : (b == 0#64) = true := beq_iff_eq.mpr hb0
   rw [he] at heq
   have HQ1 : Aside0 (r1 = 0) := ⟨by rw [HR1.out]; unfold doB; rw [if_pos hb0, if_pos hb0]; rfl⟩
   have HQ2 : Aside0 (r2 = 11) := ⟨by rw [HR2.out]; unfold doB; rw [if_pos hb0, if_pos hb0]; rfl⟩
   clear hb0 he hp hq
   go_wp2
   go_ret2
   exact ⟨by rw [HQ1.out, HQ2.out]; rfl, HBW.out⟩
  ·have he : (b == 0#64) = false := beq_eq_false_iff_ne.mpr hb0
   rw [he] at heq
   have HR1q : Aside0 (r1 = (sizeS p (sizeBV a % sizeBV b)).toInt) := ⟨by rw [HR1.out, hp]; unfold doB; rw [if_neg hb0, if_neg hb0]; rfl⟩
   have HR2q : Aside0 (r2 = 0) := ⟨by rw [HR2.out]; unfold doB; rw [if_neg hb0, if_neg hb0]; rfl⟩
   clear HR1 HR2
   have HR2 := HR2q
   have HPOS : Aside0 (0 < (sizeBV b).toNat) := ⟨size_pos hb0⟩
   clear hb0 he hp hq HR2q
   go_upto_region 20 with (fail)
   clear heq
   refine start_ (n := 12) (S := fun w' => Below ws.heap.size ws w') (ds := [11]) (tf 0 12) (by kernel_rfl) rfl rfl ((below_drew1 (Below.refl _ _))) (fun hHeld => ?_)
   refine with_tabW Do.tab20 Do.bits20 (fun HT_ HW_ => ?_)
   generalize ws.drew = w0d at hHeld ⊢
   refine take_ (i := 0) (N := some 55) (v := .agg A) (a' := ?_) (tf 1 11) rfl rfl (take_ofW HT_.out HW_.out (by kernel_rfl)) (fun _ _ _ h => h) (Or.inl ⟨by rfl, ?_⟩) hHeld ?_ ?_
   ·intro w' s0
    exact ex_ld _ rfl rfl (HXA.out.below s0) HCA.out
   rotate_left
   ·simp only [Act.put, List.setIfInBounds_toArray, List.set_cons_zero, List.set_cons_succ, i64_w, i32_w]
    rfl
   refine take_ (i := 2) (N := some 57) (v := .agg B) (a' := ?_) #[true, false, true, false, false, false, false, false, false, false, false, false] rfl rfl (take_ofW HT_.out HW_.out (by kernel_rfl)) (fun _ _ _ h => h) (Or.inl ⟨by rfl, ?_⟩) hHeld ?_ ?_
   ·intro w' s0
    exact ex_ld _ rfl rfl (HXB.out.below s0) HCB.out
   rotate_left
   ·simp only [Act.put, List.setIfInBounds_toArray, List.set_cons_zero, List.set_cons_succ, i64_w, i32_w]
    rfl
   refine join_ (σ := Array Value × Array Value × Array Value × Array Value × Nat × Nat) 2 (tf 10 2) (fun s => [(56, .agg s.1), (58, .agg s.2.1), (59, .tuple #[.agg s.2.2.1, .agg s.2.2.2.1]), (54, .tuple #[.agg s.2.2.1, .agg s.2.2.2.1]), (60, .agg s.2.2.1), (61, .agg s.2.2.2.1), (12, .pointer (some ⟨s.2.2.2.2.1, 0, none⟩)), (13, .pointer (some ⟨s.2.2.2.2.2, 0, none⟩))]) (fun s w' => Below ws.heap.size ws w' ∧ Bits s.1 (fun j => (sizeBV a).getLsbD j) ∧ Bits s.2.1 (fun j => (sizeBV b).getLsbD j) ∧ Bits s.2.2.1 (fun j => (sizeBV a / sizeBV b).getLsbD j) ∧ Bits s.2.2.2.1 (fun j => (sizeBV a % sizeBV b).getLsbD j) ∧ Blk w' s.2.2.2.2.1 Z0 ∧ ws.heap.size ≤ s.2.2.2.2.1 ∧ Blk w' s.2.2.2.2.2 Z0 ∧ ws.heap.size ≤ s.2.2.2.2.2 ∧ s.2.2.2.2.1 ≠ s.2.2.2.2.2) ?_ ?_
   rotate_left
   ·intro hJ1_3_4_8_9
    refine join_ (σ := Array Value × Array Value × Array Value × Array Value × Nat × Nat) 3 (tf 9 3) (fun s => [(56, .agg s.1), (58, .agg s.2.1), (59, .tuple #[.agg s.2.2.1, .agg s.2.2.2.1]), (54, .tuple #[.agg s.2.2.1, .agg s.2.2.2.1]), (60, .agg s.2.2.1), (61, .agg s.2.2.2.1), (12, .pointer (some ⟨s.2.2.2.2.1, 0, none⟩))]) (fun s w' => Below ws.heap.size ws w' ∧ Bits s.1 (fun j => (sizeBV a).getLsbD j) ∧ Bits s.2.1 (fun j => (sizeBV b).getLsbD j) ∧ Bits s.2.2.1 (fun j => (sizeBV a / sizeBV b).getLsbD j) ∧ Bits s.2.2.2.1 (fun j => (sizeBV a % sizeBV b).getLsbD j) ∧ Blk w' s.2.2.2.2.1 Z0 ∧ ws.heap.size ≤ s.2.2.2.2.1) ?_ ?_
    rotate_left
    ·intro hJ1_3_4_8
     refine join_ (σ := Array Value × Array Value × Array Value × Array Value × Nat × Nat) 3 #[true, true, true, true, true, true, true, true, false, true, false, false] (fun s => [(56, .agg s.1), (58, .agg s.2.1), (59, .tuple #[.agg s.2.2.1, .agg s.2.2.2.1]), (54, .tuple #[.agg s.2.2.1, .agg s.2.2.2.1]), (60, .agg s.2.2.1), (61, .agg s.2.2.2.1), (13, .pointer (some ⟨s.2.2.2.2.2, 0, none⟩))]) (fun s w' => Below ws.heap.size ws w' ∧ Bits s.1 (fun j => (sizeBV a).getLsbD j) ∧ Bits s.2.1 (fun j => (sizeBV b).getLsbD j) ∧ Bits s.2.2.1 (fun j => (sizeBV a / sizeBV b).getLsbD j) ∧ Bits s.2.2.2.1 (fun j => (sizeBV a % sizeBV b).getLsbD j) ∧ Blk w' s.2.2.2.2.2 Z0 ∧ ws.heap.size ≤ s.2.2.2.2.2) ?_ ?_
     rotate_left
     ·intro hJ1_3_4_9
      refine join_ (σ := Array Value × Array Value × Array Value × Array Value × Nat × Nat) 6 #[true, true, true, true, false, false, false, false, true, true, false, false] (fun s => [(56, .agg s.1), (58, .agg s.2.1), (12, .pointer (some ⟨s.2.2.2.2.1, 0, none⟩)), (13, .pointer (some ⟨s.2.2.2.2.2, 0, none⟩))]) (fun s w' => Below ws.heap.size ws w' ∧ Bits s.1 (fun j => (sizeBV a).getLsbD j) ∧ Bits s.2.1 (fun j => (sizeBV b).getLsbD j) ∧ Blk w' s.2.2.2.2.1 Z0 ∧ ws.heap.size ≤ s.2.2.2.2.1 ∧ Blk w' s.2.2.2.2.2 Z0 ∧ ws.heap.size ≤ s.2.2.2.2.2 ∧ s.2.2.2.2.1 ≠ s.2.2.2.2.2) ?_ ?_
      rotate_left
      ·intro hJ1_3_8_9
       refine join_ (σ := Array Value × Array Value × Array Value × Array Value × Nat × Nat) 4 (tf 8 4) (fun s => [(56, .agg s.1), (58, .agg s.2.1), (59, .tuple #[.agg s.2.2.1, .agg s.2.2.2.1]), (54, .tuple #[.agg s.2.2.1, .agg s.2.2.2.1]), (60, .agg s.2.2.1), (61, .agg s.2.2.2.1)]) (fun s w' => Below ws.heap.size ws w' ∧ Bits s.1 (fun j => (sizeBV a).getLsbD j) ∧ Bits s.2.1 (fun j => (sizeBV b).getLsbD j) ∧ Bits s.2.2.1 (fun j => (sizeBV a / sizeBV b).getLsbD j) ∧ Bits s.2.2.2.1 (fun j => (sizeBV a % sizeBV b).getLsbD j)) ?_ ?_
       rotate_left
       ·intro hJ1_3_4
        refine join_ (σ := Array Value × Array Value × Array Value × Array Value × Nat × Nat) 7 #[true, true, true, true, false, false, false, false, true, false, false, false] (fun s => [(56, .agg s.1), (58, .agg s.2.1), (12, .pointer (some ⟨s.2.2.2.2.1, 0, none⟩))]) (fun s w' => Below ws.heap.size ws w' ∧ Bits s.1 (fun j => (sizeBV a).getLsbD j) ∧ Bits s.2.1 (fun j => (sizeBV b).getLsbD j) ∧ Blk w' s.2.2.2.2.1 Z0 ∧ ws.heap.size ≤ s.2.2.2.2.1) ?_ ?_
        rotate_left
        ·intro hJ1_3_8
         refine join_ (σ := Array Value × Array Value × Array Value × Array Value × Nat × Nat) 7 #[true, true, true, true, false, false, false, false, false, true, false, false] (fun s => [(56, .agg s.1), (58, .agg s.2.1), (13, .pointer (some ⟨s.2.2.2.2.2, 0, none⟩))]) (fun s w' => Below ws.heap.size ws w' ∧ Bits s.1 (fun j => (sizeBV a).getLsbD j) ∧ Bits s.2.1 (fun j => (sizeBV b).getLsbD j) ∧ Blk w' s.2.2.2.2.2 Z0 ∧ ws.heap.size ≤ s.2.2.2.2.2) ?_ ?_
         rotate_left
         ·intro hJ1_3_9
          refine join_ (σ := Array Value × Array Value × Array Value × Array Value × Nat × Nat) 7 #[true, true, true, false, false, false, false, false, true, true, false, false] (fun s => [(56, .agg s.1), (12, .pointer (some ⟨s.2.2.2.2.1, 0, none⟩)), (13, .pointer (some ⟨s.2.2.2.2.2, 0, none⟩))]) (fun s w' => Below ws.heap.size ws w' ∧ Bits s.1 (fun j => (sizeBV a).getLsbD j) ∧ Blk w' s.2.2.2.2.1 Z0 ∧ ws.heap.size ≤ s.2.2.2.2.1 ∧ Blk w' s.2.2.2.2.2 Z0 ∧ ws.heap.size ≤ s.2.2.2.2.2 ∧ s.2.2.2.2.1 ≠ s.2.2.2.2.2) ?_ ?_
          rotate_left
          ·intro hJ1_8_9
           refine join_ (σ := Array Value × Array Value × Array Value × Array Value × Nat × Nat) 8 (tf 4 8) (fun s => [(56, .agg s.1), (58, .agg s.2.1)]) (fun s w' => Below ws.heap.size ws w' ∧ Bits s.1 (fun j => (sizeBV a).getLsbD j) ∧ Bits s.2.1 (fun j => (sizeBV b).getLsbD j)) ?_ ?_
           rotate_left
           ·intro hJ1_3
            refine join_ (σ := Array Value × Array Value × Array Value × Array Value × Nat × Nat) 8 #[true, true, true, false, false, false, false, false, true, false, false, false] (fun s => [(56, .agg s.1), (12, .pointer (some ⟨s.2.2.2.2.1, 0, none⟩))]) (fun s w' => Below ws.heap.size ws w' ∧ Bits s.1 (fun j => (sizeBV a).getLsbD j) ∧ Blk w' s.2.2.2.2.1 Z0 ∧ ws.heap.size ≤ s.2.2.2.2.1) ?_ ?_
            rotate_left
            ·intro hJ1_8
             refine join_ (σ := Array Value × Array Value × Array Value × Array Value × Nat × Nat) 8 #[true, true, true, false, false, false, false, false, false, true, false, false] (fun s => [(56, .agg s.1), (13, .pointer (some ⟨s.2.2.2.2.2, 0, none⟩))]) (fun s w' => Below ws.heap.size ws w' ∧ Bits s.1 (fun j => (sizeBV a).getLsbD j) ∧ Blk w' s.2.2.2.2.2 Z0 ∧ ws.heap.size ≤ s.2.2.2.2.2) ?_ ?_
             rotate_left
             ·intro hJ1_9
              refine join_ (σ := Array Value × Array Value × Array Value × Array Value × Nat × Nat) 8 #[true, false, true, false, false, false, false, false, true, true, false, false] (fun s => [(12, .pointer (some ⟨s.2.2.2.2.1, 0, none⟩)), (13, .pointer (some ⟨s.2.2.2.2.2, 0, none⟩))]) (fun s w' => Below ws.heap.size ws w' ∧ Blk w' s.2.2.2.2.1 Z0 ∧ ws.heap.size ≤ s.2.2.2.2.1 ∧ Blk w' s.2.2.2.2.2 Z0 ∧ ws.heap.size ≤ s.2.2.2.2.2 ∧ s.2.2.2.2.1 ≠ s.2.2.2.2.2) ?_ ?_
              rotate_left
              ·intro hJ8_9
               refine join_ (σ := Array Value × Array Value × Array Value × Array Value × Nat × Nat) 9 (tf 3 9) (fun s => [(56, .agg s.1)]) (fun s w' => Below ws.heap.size ws w' ∧ Bits s.1 (fun j => (sizeBV a).getLsbD j)) ?_ ?_
               rotate_left
               ·intro hJ1
                refine join_ (σ := Array Value × Array Value × Array Value × Array Value × Nat × Nat) 9 #[true, false, true, false, false, false, false, false, true, false, false, false] (fun s => [(12, .pointer (some ⟨s.2.2.2.2.1, 0, none⟩))]) (fun s w' => Below ws.heap.size ws w' ∧ Blk w' s.2.2.2.2.1 Z0 ∧ ws.heap.size ≤ s.2.2.2.2.1) ?_ ?_
                rotate_left
                ·intro hJ8
                 refine join_ (σ := Array Value × Array Value × Array Value × Array Value × Nat × Nat) 9 #[true, false, true, false, false, false, false, false, false, true, false, false] (fun s => [(13, .pointer (some ⟨s.2.2.2.2.2, 0, none⟩))]) (fun s w' => Below ws.heap.size ws w' ∧ Blk w' s.2.2.2.2.2 Z0 ∧ ws.heap.size ≤ s.2.2.2.2.2) ?_ ?_
                 rotate_left
                 ·intro hJ9
                  refine three_ (i := 1) (j := 8) (k := 9) (Ni := some 56) (Nj := some 12) (Nk := some 13) (tf 3 9) #[true, false, true, false, false, false, false, false, true, false, false, false] #[true, false, true, false, false, false, false, false, false, true, false, false] rfl rfl rfl rfl rfl rfl (three_of HT_.out (by kernel_rfl)) (by decide) (by decide) (by decide) (fun K hK => ?_) (fun K hK => ?_) (fun K hK => ?_)
                  ·skip
                   have hOld := hHeld
                   refine goes_ Tryd.func33 (by kernel_rfl) rfl #[.agg A] (by rfl) rfl rfl (by simp only [List.map_toArray, List.map_cons, List.map_nil]; rfl) ?_
                   refine (size_calls A a _ HCA.out).mono ?_
                   rintro e wnx1 ⟨SA', rfl, hSA, hb⟩
                   refine ⟨_, rfl, ?_⟩
                   refine hK.out _ _ ((below_step hHeld hb)) (fun hHeld => ?_)
                   clear hK K
                   refine norm_ (a' := ?_) ?_ ?_
                   rotate_left
                   ·show Act.put _ (some 56) _ = _
                    simp only [Act.put, List.setIfInBounds_toArray, List.set_cons_zero, List.set_cons_succ, i64_w, i32_w]
                    rfl
                   exact norm_ (by first | (simp only [putAll, Act.put, List.setIfInBounds_toArray, List.set_cons_zero, List.set_cons_succ]; done) | (simp only [putAll, Act.put, List.setIfInBounds_toArray, List.set_cons_zero, List.set_cons_succ]; rfl)) (hJ1 (SA', #[], #[], #[], 0, 0) _ ⟨hHeld, hSA⟩)
                  ·skip
                   have hOld := hHeld
                   refine value_ (by rfl) rfl (ex_alloc rfl HZZ.out) ?_
                   refine hK.out _ _ ((below_alloc hHeld _)) (fun hHeld => ?_)
                   clear hK K
                   refine norm_ (a' := ?_) ?_ ?_
                   rotate_left
                   ·show Act.put _ (some 12) _ = _
                    simp only [Act.put, List.setIfInBounds_toArray, List.set_cons_zero, List.set_cons_succ, i64_w, i32_w]
                    rfl
                   exact norm_ (by first | (simp only [putAll, Act.put, List.setIfInBounds_toArray, List.set_cons_zero, List.set_cons_succ]; done) | (simp only [putAll, Act.put, List.setIfInBounds_toArray, List.set_cons_zero, List.set_cons_succ]; rfl)) (hJ8 (#[], #[], #[], #[], w0d.heap.size, 0) _ ⟨hHeld, (blk_new _ _), hOld.size⟩)
                  ·skip
                   have hOld := hHeld
                   refine value_ (by rfl) rfl (ex_alloc rfl HZZ.out) ?_
                   refine hK.out _ _ ((below_alloc hHeld _)) (fun hHeld => ?_)
                   clear hK K
                   refine norm_ (a' := ?_) ?_ ?_
                   rotate_left
                   ·show Act.put _ (some 13) _ = _
                    simp only [Act.put, List.setIfInBounds_toArray, List.set_cons_zero, List.set_cons_succ, i64_w, i32_w]
                    rfl
                   exact norm_ (by first | (simp only [putAll, Act.put, List.setIfInBounds_toArray, List.set_cons_zero, List.set_cons_succ]; done) | (simp only [putAll, Act.put, List.setIfInBounds_toArray, List.set_cons_zero, List.set_cons_succ]; rfl)) (hJ9 (#[], #[], #[], #[], 0, w0d.heap.size) _ ⟨hHeld, (blk_new _ _), hOld.size⟩)
                 ·skip
                  rintro ⟨SA, SB, Q, R, g8, g9⟩ wd9 ⟨hHeld, f9, l9⟩
                  refine norm_ (a' := ?_) ?_ ?_
                  rotate_left
                  ·simp only [putAll, Act.put, List.setIfInBounds_toArray, List.set_cons_zero, List.set_cons_succ]
                   rfl
                  refine two_ (i := 1) (j := 8) (Ni := some 56) (Nj := some 12) #[true, true, true, false, false, false, false, false, false, true, false, false] #[true, false, true, false, false, false, false, false, true, true, false, false] rfl rfl rfl rfl (two_of HT_.out (by kernel_rfl)) (by decide) (by decide) (fun K hK => ?_) (fun K hK => ?_)
                  ·skip
                   have hOld := hHeld
                   refine goes_ Tryd.func33 (by kernel_rfl) rfl #[.agg A] (by rfl) rfl rfl (by simp only [List.map_toArray, List.map_cons, List.map_nil]; rfl) ?_
                   refine (size_calls A a _ HCA.out).mono ?_
                   rintro e wn9x1 ⟨SA', rfl, hSA, hb⟩
                   refine ⟨_, rfl, ?_⟩
                   refine hK.out _ _ ((below_step hHeld hb)) (fun hHeld => ?_)
                   clear hK K
                   refine norm_ (a' := ?_) ?_ ?_
                   rotate_left
                   ·show Act.put _ (some 56) _ = _
                    simp only [Act.put, List.setIfInBounds_toArray, List.set_cons_zero, List.set_cons_succ, i64_w, i32_w]
                    rfl
                   exact norm_ (by first | (simp only [putAll, Act.put, List.setIfInBounds_toArray, List.set_cons_zero, List.set_cons_succ]; done) | (simp only [putAll, Act.put, List.setIfInBounds_toArray, List.set_cons_zero, List.set_cons_succ]; rfl)) (hJ1_9 (SA', #[], #[], #[], 0, g9) _ ⟨hHeld, hSA, (f9.below hb), l9⟩)
                  ·skip
                   have hOld := hHeld
                   refine value_ (by rfl) rfl (ex_alloc rfl HZZ.out) ?_
                   refine hK.out _ _ ((below_alloc hHeld _)) (fun hHeld => ?_)
                   clear hK K
                   refine norm_ (a' := ?_) ?_ ?_
                   rotate_left
                   ·show Act.put _ (some 12) _ = _
                    simp only [Act.put, List.setIfInBounds_toArray, List.set_cons_zero, List.set_cons_succ, i64_w, i32_w]
                    rfl
                   exact norm_ (by first | (simp only [putAll, Act.put, List.setIfInBounds_toArray, List.set_cons_zero, List.set_cons_succ]; done) | (simp only [putAll, Act.put, List.setIfInBounds_toArray, List.set_cons_zero, List.set_cons_succ]; rfl)) (hJ8_9 (#[], #[], #[], #[], wd9.heap.size, g9) _ ⟨hHeld, (blk_new _ _), hOld.size, (f9.below (below_alloc (Below.refl _ _) _)), l9, (Nat.ne_of_gt f9.lt)⟩)
                ·skip
                 rintro ⟨SA, SB, Q, R, g8, g9⟩ wd8 ⟨hHeld, f8, l8⟩
                 refine norm_ (a' := ?_) ?_ ?_
                 rotate_left
                 ·simp only [putAll, Act.put, List.setIfInBounds_toArray, List.set_cons_zero, List.set_cons_succ]
                  rfl
                 refine two_ (i := 1) (j := 9) (Ni := some 56) (Nj := some 13) #[true, true, true, false, false, false, false, false, true, false, false, false] #[true, false, true, false, false, false, false, false, true, true, false, false] rfl rfl rfl rfl (two_of HT_.out (by kernel_rfl)) (by decide) (by decide) (fun K hK => ?_) (fun K hK => ?_)
                 ·skip
                  have hOld := hHeld
                  refine goes_ Tryd.func33 (by kernel_rfl) rfl #[.agg A] (by rfl) rfl rfl (by simp only [List.map_toArray, List.map_cons, List.map_nil]; rfl) ?_
                  refine (size_calls A a _ HCA.out).mono ?_
                  rintro e wn8x1 ⟨SA', rfl, hSA, hb⟩
                  refine ⟨_, rfl, ?_⟩
                  refine hK.out _ _ ((below_step hHeld hb)) (fun hHeld => ?_)
                  clear hK K
                  refine norm_ (a' := ?_) ?_ ?_
                  rotate_left
                  ·show Act.put _ (some 56) _ = _
                   simp only [Act.put, List.setIfInBounds_toArray, List.set_cons_zero, List.set_cons_succ, i64_w, i32_w]
                   rfl
                  exact norm_ (by first | (simp only [putAll, Act.put, List.setIfInBounds_toArray, List.set_cons_zero, List.set_cons_succ]; done) | (simp only [putAll, Act.put, List.setIfInBounds_toArray, List.set_cons_zero, List.set_cons_succ]; rfl)) (hJ1_8 (SA', #[], #[], #[], g8, 0) _ ⟨hHeld, hSA, (f8.below hb), l8⟩)
                 ·skip
                  have hOld := hHeld
                  refine value_ (by rfl) rfl (ex_alloc rfl HZZ.out) ?_
                  refine hK.out _ _ ((below_alloc hHeld _)) (fun hHeld => ?_)
                  clear hK K
                  refine norm_ (a' := ?_) ?_ ?_
                  rotate_left
                  ·show Act.put _ (some 13) _ = _
                   simp only [Act.put, List.setIfInBounds_toArray, List.set_cons_zero, List.set_cons_succ, i64_w, i32_w]
                   rfl
                  exact norm_ (by first | (simp only [putAll, Act.put, List.setIfInBounds_toArray, List.set_cons_zero, List.set_cons_succ]; done) | (simp only [putAll, Act.put, List.setIfInBounds_toArray, List.set_cons_zero, List.set_cons_succ]; rfl)) (hJ8_9 (#[], #[], #[], #[], g8, wd8.heap.size) _ ⟨hHeld, (f8.below (below_alloc (Below.refl _ _) _)), l8, (blk_new _ _), hOld.size, (Nat.ne_of_lt f8.lt)⟩)
               ·skip
                rintro ⟨SA, SB, Q, R, g8, g9⟩ wd1 ⟨hHeld, fA⟩
                refine norm_ (a' := ?_) ?_ ?_
                rotate_left
                ·simp only [putAll, Act.put, List.setIfInBounds_toArray, List.set_cons_zero, List.set_cons_succ]
                 rfl
                refine three_ (i := 3) (j := 8) (k := 9) (Ni := some 58) (Nj := some 12) (Nk := some 13) (tf 4 8) #[true, true, true, false, false, false, false, false, true, false, false, false] #[true, true, true, false, false, false, false, false, false, true, false, false] rfl rfl rfl rfl rfl rfl (three_of HT_.out (by kernel_rfl)) (by decide) (by decide) (by decide) (fun K hK => ?_) (fun K hK => ?_) (fun K hK => ?_)
                ·skip
                 have hOld := hHeld
                 refine goes_ Tryd.func33 (by kernel_rfl) rfl #[.agg B] (by rfl) rfl rfl (by simp only [List.map_toArray, List.map_cons, List.map_nil]; rfl) ?_
                 refine (size_calls B b _ HCB.out).mono ?_
                 rintro e wn1x3 ⟨SB', rfl, hSB, hb⟩
                 refine ⟨_, rfl, ?_⟩
                 refine hK.out _ _ ((below_step hHeld hb)) (fun hHeld => ?_)
                 clear hK K
                 refine norm_ (a' := ?_) ?_ ?_
                 rotate_left
                 ·show Act.put _ (some 58) _ = _
                  simp only [Act.put, List.setIfInBounds_toArray, List.set_cons_zero, List.set_cons_succ, i64_w, i32_w]
                  rfl
                 exact norm_ (by first | (simp only [putAll, Act.put, List.setIfInBounds_toArray, List.set_cons_zero, List.set_cons_succ]; done) | (simp only [putAll, Act.put, List.setIfInBounds_toArray, List.set_cons_zero, List.set_cons_succ]; rfl)) (hJ1_3 (SA, SB', #[], #[], 0, 0) _ ⟨hHeld, fA, hSB⟩)
                ·skip
                 have hOld := hHeld
                 refine value_ (by rfl) rfl (ex_alloc rfl HZZ.out) ?_
                 refine hK.out _ _ ((below_alloc hHeld _)) (fun hHeld => ?_)
                 clear hK K
                 refine norm_ (a' := ?_) ?_ ?_
                 rotate_left
                 ·show Act.put _ (some 12) _ = _
                  simp only [Act.put, List.setIfInBounds_toArray, List.set_cons_zero, List.set_cons_succ, i64_w, i32_w]
                  rfl
                 exact norm_ (by first | (simp only [putAll, Act.put, List.setIfInBounds_toArray, List.set_cons_zero, List.set_cons_succ]; done) | (simp only [putAll, Act.put, List.setIfInBounds_toArray, List.set_cons_zero, List.set_cons_succ]; rfl)) (hJ1_8 (SA, #[], #[], #[], wd1.heap.size, 0) _ ⟨hHeld, fA, (blk_new _ _), hOld.size⟩)
                ·skip
                 have hOld := hHeld
                 refine value_ (by rfl) rfl (ex_alloc rfl HZZ.out) ?_
                 refine hK.out _ _ ((below_alloc hHeld _)) (fun hHeld => ?_)
                 clear hK K
                 refine norm_ (a' := ?_) ?_ ?_
                 rotate_left
                 ·show Act.put _ (some 13) _ = _
                  simp only [Act.put, List.setIfInBounds_toArray, List.set_cons_zero, List.set_cons_succ, i64_w, i32_w]
                  rfl
                 exact norm_ (by first | (simp only [putAll, Act.put, List.setIfInBounds_toArray, List.set_cons_zero, List.set_cons_succ]; done) | (simp only [putAll, Act.put, List.setIfInBounds_toArray, List.set_cons_zero, List.set_cons_succ]; rfl)) (hJ1_9 (SA, #[], #[], #[], 0, wd1.heap.size) _ ⟨hHeld, fA, (blk_new _ _), hOld.size⟩)
              ·skip
               rintro ⟨SA, SB, Q, R, g8, g9⟩ wd8_9 ⟨hHeld, f8, l8, f9, l9, f89⟩
               refine norm_ (a' := ?_) ?_ ?_
               rotate_left
               ·simp only [putAll, Act.put, List.setIfInBounds_toArray, List.set_cons_zero, List.set_cons_succ]
                rfl
               refine one_ (i := 1) (N := some 56) #[true, true, true, false, false, false, false, false, true, true, false, false] rfl rfl (one_of HT_.out (by kernel_rfl)) (by decide) (fun K hK => ?_)
               have hOld := hHeld
               refine goes_ Tryd.func33 (by kernel_rfl) rfl #[.agg A] (by rfl) rfl rfl (by simp only [List.map_toArray, List.map_cons, List.map_nil]; rfl) ?_
               refine (size_calls A a _ HCA.out).mono ?_
               rintro e wn8_9x1 ⟨SA', rfl, hSA, hb⟩
               refine ⟨_, rfl, ?_⟩
               refine hK.out _ _ ((below_step hHeld hb)) (fun hHeld => ?_)
               clear hK K
               refine norm_ (a' := ?_) ?_ ?_
               rotate_left
               ·show Act.put _ (some 56) _ = _
                simp only [Act.put, List.setIfInBounds_toArray, List.set_cons_zero, List.set_cons_succ, i64_w, i32_w]
                rfl
               exact norm_ (by first | (simp only [putAll, Act.put, List.setIfInBounds_toArray, List.set_cons_zero, List.set_cons_succ]; done) | (simp only [putAll, Act.put, List.setIfInBounds_toArray, List.set_cons_zero, List.set_cons_succ]; rfl)) (hJ1_8_9 (SA', #[], #[], #[], g8, g9) _ ⟨hHeld, hSA, (f8.below hb), l8, (f9.below hb), l9, f89⟩)
             ·skip
              rintro ⟨SA, SB, Q, R, g8, g9⟩ wd1_9 ⟨hHeld, fA, f9, l9⟩
              refine norm_ (a' := ?_) ?_ ?_
              rotate_left
              ·simp only [putAll, Act.put, List.setIfInBounds_toArray, List.set_cons_zero, List.set_cons_succ]
               rfl
              refine two_ (i := 3) (j := 8) (Ni := some 58) (Nj := some 12) #[true, true, true, true, false, false, false, false, false, true, false, false] #[true, true, true, false, false, false, false, false, true, true, false, false] rfl rfl rfl rfl (two_of HT_.out (by kernel_rfl)) (by decide) (by decide) (fun K hK => ?_) (fun K hK => ?_)
              ·skip
               have hOld := hHeld
               refine goes_ Tryd.func33 (by kernel_rfl) rfl #[.agg B] (by rfl) rfl rfl (by simp only [List.map_toArray, List.map_cons, List.map_nil]; rfl) ?_
               refine (size_calls B b _ HCB.out).mono ?_
               rintro e wn1_9x3 ⟨SB', rfl, hSB, hb⟩
               refine ⟨_, rfl, ?_⟩
               refine hK.out _ _ ((below_step hHeld hb)) (fun hHeld => ?_)
               clear hK K
               refine norm_ (a' := ?_) ?_ ?_
               rotate_left
               ·show Act.put _ (some 58) _ = _
                simp only [Act.put, List.setIfInBounds_toArray, List.set_cons_zero, List.set_cons_succ, i64_w, i32_w]
                rfl
               exact norm_ (by first | (simp only [putAll, Act.put, List.setIfInBounds_toArray, List.set_cons_zero, List.set_cons_succ]; done) | (simp only [putAll, Act.put, List.setIfInBounds_toArray, List.set_cons_zero, List.set_cons_succ]; rfl)) (hJ1_3_9 (SA, SB', #[], #[], 0, g9) _ ⟨hHeld, fA, hSB, (f9.below hb), l9⟩)
              ·skip
               have hOld := hHeld
               refine value_ (by rfl) rfl (ex_alloc rfl HZZ.out) ?_
               refine hK.out _ _ ((below_alloc hHeld _)) (fun hHeld => ?_)
               clear hK K
               refine norm_ (a' := ?_) ?_ ?_
               rotate_left
               ·show Act.put _ (some 12) _ = _
                simp only [Act.put, List.setIfInBounds_toArray, List.set_cons_zero, List.set_cons_succ, i64_w, i32_w]
                rfl
               exact norm_ (by first | (simp only [putAll, Act.put, List.setIfInBounds_toArray, List.set_cons_zero, List.set_cons_succ]; done) | (simp only [putAll, Act.put, List.setIfInBounds_toArray, List.set_cons_zero, List.set_cons_succ]; rfl)) (hJ1_8_9 (SA, #[], #[], #[], wd1_9.heap.size, g9) _ ⟨hHeld, fA, (blk_new _ _), hOld.size, (f9.below (below_alloc (Below.refl _ _) _)), l9, (Nat.ne_of_gt f9.lt)⟩)
            ·skip
             rintro ⟨SA, SB, Q, R, g8, g9⟩ wd1_8 ⟨hHeld, fA, f8, l8⟩
             refine norm_ (a' := ?_) ?_ ?_
             rotate_left
             ·simp only [putAll, Act.put, List.setIfInBounds_toArray, List.set_cons_zero, List.set_cons_succ]
              rfl
             refine two_ (i := 3) (j := 9) (Ni := some 58) (Nj := some 13) #[true, true, true, true, false, false, false, false, true, false, false, false] #[true, true, true, false, false, false, false, false, true, true, false, false] rfl rfl rfl rfl (two_of HT_.out (by kernel_rfl)) (by decide) (by decide) (fun K hK => ?_) (fun K hK => ?_)
             ·skip
              have hOld := hHeld
              refine goes_ Tryd.func33 (by kernel_rfl) rfl #[.agg B] (by rfl) rfl rfl (by simp only [List.map_toArray, List.map_cons, List.map_nil]; rfl) ?_
              refine (size_calls B b _ HCB.out).mono ?_
              rintro e wn1_8x3 ⟨SB', rfl, hSB, hb⟩
              refine ⟨_, rfl, ?_⟩
              refine hK.out _ _ ((below_step hHeld hb)) (fun hHeld => ?_)
              clear hK K
              refine norm_ (a' := ?_) ?_ ?_
              rotate_left
              ·show Act.put _ (some 58) _ = _
               simp only [Act.put, List.setIfInBounds_toArray, List.set_cons_zero, List.set_cons_succ, i64_w, i32_w]
               rfl
              exact norm_ (by first | (simp only [putAll, Act.put, List.setIfInBounds_toArray, List.set_cons_zero, List.set_cons_succ]; done) | (simp only [putAll, Act.put, List.setIfInBounds_toArray, List.set_cons_zero, List.set_cons_succ]; rfl)) (hJ1_3_8 (SA, SB', #[], #[], g8, 0) _ ⟨hHeld, fA, hSB, (f8.below hb), l8⟩)
             ·skip
              have hOld := hHeld
              refine value_ (by rfl) rfl (ex_alloc rfl HZZ.out) ?_
              refine hK.out _ _ ((below_alloc hHeld _)) (fun hHeld => ?_)
              clear hK K
              refine norm_ (a' := ?_) ?_ ?_
              rotate_left
              ·show Act.put _ (some 13) _ = _
               simp only [Act.put, List.setIfInBounds_toArray, List.set_cons_zero, List.set_cons_succ, i64_w, i32_w]
               rfl
              exact norm_ (by first | (simp only [putAll, Act.put, List.setIfInBounds_toArray, List.set_cons_zero, List.set_cons_succ]; done) | (simp only [putAll, Act.put, List.setIfInBounds_toArray, List.set_cons_zero, List.set_cons_succ]; rfl)) (hJ1_8_9 (SA, #[], #[], #[], g8, wd1_8.heap.size) _ ⟨hHeld, fA, (f8.below (below_alloc (Below.refl _ _) _)), l8, (blk_new _ _), hOld.size, (Nat.ne_of_lt f8.lt)⟩)
           ·skip
            rintro ⟨SA, SB, Q, R, g8, g9⟩ wd1_3 ⟨hHeld, fA, fB⟩
            refine norm_ (a' := ?_) ?_ ?_
            rotate_left
            ·simp only [putAll, Act.put, List.setIfInBounds_toArray, List.set_cons_zero, List.set_cons_succ]
             rfl
            refine three_ (i := 4) (j := 8) (k := 9) (Ni := some 59) (Nj := some 12) (Nk := some 13) (tf 5 7) #[true, true, true, true, false, false, false, false, true, false, false, false] #[true, true, true, true, false, false, false, false, false, true, false, false] rfl rfl rfl rfl rfl rfl (three_of HT_.out (by kernel_rfl)) (by decide) (by decide) (by decide) (fun K hK => ?_) (fun K hK => ?_) (fun K hK => ?_)
            ·skip
             have hOld := hHeld
             refine goes_ Tryd.func32 (by kernel_rfl) rfl #[.agg SA, .agg SB] (by rfl) rfl rfl (by simp only [List.map_toArray, List.map_cons, List.map_nil]; rfl) ?_
             refine (divide_calls SA SB (sizeBV a) (sizeBV b) _ fA fB HPOS.out).mono ?_
             rintro e wn1_3x4 ⟨Q', R', rfl, hQ, hR, hb⟩
             refine ⟨_, rfl, ?_⟩
             refine hK.out _ _ ((below_step hHeld hb)) (fun hHeld => ?_)
             clear hK K
             refine norm_ (a' := ?_) ?_ ?_
             rotate_left
             ·show Act.put _ (some 59) _ = _
              simp only [Act.put, List.setIfInBounds_toArray, List.set_cons_zero, List.set_cons_succ, i64_w, i32_w]
              rfl
             refine pure_ (i := 5) (N := some 54) (v := ?_) (a' := ?_) (tf 6 6) rfl rfl (any_of HT_.out (by kernel_rfl)) (fun _ _ _ h => h) (Or.inl ⟨by rfl, ?_⟩) ?_ ?_
             rotate_left
             ·intro w'
              go_simp
              with_reducible rfl
             rotate_left
             ·simp only [Act.put, List.setIfInBounds_toArray, List.set_cons_zero, List.set_cons_succ, i64_w, i32_w]
              rfl
             refine pure_ (i := 6) (N := some 60) (v := ?_) (a' := ?_) (tf 7 5) rfl rfl (any_of HT_.out (by kernel_rfl)) (fun _ _ _ h => h) (Or.inl ⟨by rfl, ?_⟩) ?_ ?_
             rotate_left
             ·intro w'
              go_simp
              with_reducible rfl
             rotate_left
             ·simp only [Act.put, List.setIfInBounds_toArray, List.set_cons_zero, List.set_cons_succ, i64_w, i32_w]
              rfl
             refine pure_ (i := 7) (N := some 61) (v := ?_) (a' := ?_) (tf 8 4) rfl rfl (any_of HT_.out (by kernel_rfl)) (fun _ _ _ h => h) (Or.inl ⟨by rfl, ?_⟩) ?_ ?_
             rotate_left
             ·intro w'
              go_simp
              with_reducible rfl
             rotate_left
             ·simp only [Act.put, List.setIfInBounds_toArray, List.set_cons_zero, List.set_cons_succ, i64_w, i32_w]
              rfl
             exact norm_ (by first | (simp only [putAll, Act.put, List.setIfInBounds_toArray, List.set_cons_zero, List.set_cons_succ]; done) | (simp only [putAll, Act.put, List.setIfInBounds_toArray, List.set_cons_zero, List.set_cons_succ]; rfl)) (hJ1_3_4 (SA, SB, Q', R', 0, 0) _ ⟨hHeld, fA, fB, hQ, hR⟩)
            ·skip
             have hOld := hHeld
             refine value_ (by rfl) rfl (ex_alloc rfl HZZ.out) ?_
             refine hK.out _ _ ((below_alloc hHeld _)) (fun hHeld => ?_)
             clear hK K
             refine norm_ (a' := ?_) ?_ ?_
             rotate_left
             ·show Act.put _ (some 12) _ = _
              simp only [Act.put, List.setIfInBounds_toArray, List.set_cons_zero, List.set_cons_succ, i64_w, i32_w]
              rfl
             exact norm_ (by first | (simp only [putAll, Act.put, List.setIfInBounds_toArray, List.set_cons_zero, List.set_cons_succ]; done) | (simp only [putAll, Act.put, List.setIfInBounds_toArray, List.set_cons_zero, List.set_cons_succ]; rfl)) (hJ1_3_8 (SA, SB, #[], #[], wd1_3.heap.size, 0) _ ⟨hHeld, fA, fB, (blk_new _ _), hOld.size⟩)
            ·skip
             have hOld := hHeld
             refine value_ (by rfl) rfl (ex_alloc rfl HZZ.out) ?_
             refine hK.out _ _ ((below_alloc hHeld _)) (fun hHeld => ?_)
             clear hK K
             refine norm_ (a' := ?_) ?_ ?_
             rotate_left
             ·show Act.put _ (some 13) _ = _
              simp only [Act.put, List.setIfInBounds_toArray, List.set_cons_zero, List.set_cons_succ, i64_w, i32_w]
              rfl
             exact norm_ (by first | (simp only [putAll, Act.put, List.setIfInBounds_toArray, List.set_cons_zero, List.set_cons_succ]; done) | (simp only [putAll, Act.put, List.setIfInBounds_toArray, List.set_cons_zero, List.set_cons_succ]; rfl)) (hJ1_3_9 (SA, SB, #[], #[], 0, wd1_3.heap.size) _ ⟨hHeld, fA, fB, (blk_new _ _), hOld.size⟩)
          ·skip
           rintro ⟨SA, SB, Q, R, g8, g9⟩ wd1_8_9 ⟨hHeld, fA, f8, l8, f9, l9, f89⟩
           refine norm_ (a' := ?_) ?_ ?_
           rotate_left
           ·simp only [putAll, Act.put, List.setIfInBounds_toArray, List.set_cons_zero, List.set_cons_succ]
            rfl
           refine one_ (i := 3) (N := some 58) #[true, true, true, true, false, false, false, false, true, true, false, false] rfl rfl (one_of HT_.out (by kernel_rfl)) (by decide) (fun K hK => ?_)
           have hOld := hHeld
           refine goes_ Tryd.func33 (by kernel_rfl) rfl #[.agg B] (by rfl) rfl rfl (by simp only [List.map_toArray, List.map_cons, List.map_nil]; rfl) ?_
           refine (size_calls B b _ HCB.out).mono ?_
           rintro e wn1_8_9x3 ⟨SB', rfl, hSB, hb⟩
           refine ⟨_, rfl, ?_⟩
           refine hK.out _ _ ((below_step hHeld hb)) (fun hHeld => ?_)
           clear hK K
           refine norm_ (a' := ?_) ?_ ?_
           rotate_left
           ·show Act.put _ (some 58) _ = _
            simp only [Act.put, List.setIfInBounds_toArray, List.set_cons_zero, List.set_cons_succ, i64_w, i32_w]
            rfl
           exact norm_ (by first | (simp only [putAll, Act.put, List.setIfInBounds_toArray, List.set_cons_zero, List.set_cons_succ]; done) | (simp only [putAll, Act.put, List.setIfInBounds_toArray, List.set_cons_zero, List.set_cons_succ]; rfl)) (hJ1_3_8_9 (SA, SB', #[], #[], g8, g9) _ ⟨hHeld, fA, hSB, (f8.below hb), l8, (f9.below hb), l9, f89⟩)
         ·skip
          rintro ⟨SA, SB, Q, R, g8, g9⟩ wd1_3_9 ⟨hHeld, fA, fB, f9, l9⟩
          refine norm_ (a' := ?_) ?_ ?_
          rotate_left
          ·simp only [putAll, Act.put, List.setIfInBounds_toArray, List.set_cons_zero, List.set_cons_succ]
           rfl
          refine two_ (i := 4) (j := 8) (Ni := some 59) (Nj := some 12) #[true, true, true, true, true, false, false, false, false, true, false, false] #[true, true, true, true, false, false, false, false, true, true, false, false] rfl rfl rfl rfl (two_of HT_.out (by kernel_rfl)) (by decide) (by decide) (fun K hK => ?_) (fun K hK => ?_)
          ·skip
           have hOld := hHeld
           refine goes_ Tryd.func32 (by kernel_rfl) rfl #[.agg SA, .agg SB] (by rfl) rfl rfl (by simp only [List.map_toArray, List.map_cons, List.map_nil]; rfl) ?_
           refine (divide_calls SA SB (sizeBV a) (sizeBV b) _ fA fB HPOS.out).mono ?_
           rintro e wn1_3_9x4 ⟨Q', R', rfl, hQ, hR, hb⟩
           refine ⟨_, rfl, ?_⟩
           refine hK.out _ _ ((below_step hHeld hb)) (fun hHeld => ?_)
           clear hK K
           refine norm_ (a' := ?_) ?_ ?_
           rotate_left
           ·show Act.put _ (some 59) _ = _
            simp only [Act.put, List.setIfInBounds_toArray, List.set_cons_zero, List.set_cons_succ, i64_w, i32_w]
            rfl
           refine pure_ (i := 5) (N := some 54) (v := ?_) (a' := ?_) #[true, true, true, true, true, true, false, false, false, true, false, false] rfl rfl (any_of HT_.out (by kernel_rfl)) (fun _ _ _ h => h) (Or.inl ⟨by rfl, ?_⟩) ?_ ?_
           rotate_left
           ·intro w'
            go_simp
            with_reducible rfl
           rotate_left
           ·simp only [Act.put, List.setIfInBounds_toArray, List.set_cons_zero, List.set_cons_succ, i64_w, i32_w]
            rfl
           refine pure_ (i := 6) (N := some 60) (v := ?_) (a' := ?_) #[true, true, true, true, true, true, true, false, false, true, false, false] rfl rfl (any_of HT_.out (by kernel_rfl)) (fun _ _ _ h => h) (Or.inl ⟨by rfl, ?_⟩) ?_ ?_
           rotate_left
           ·intro w'
            go_simp
            with_reducible rfl
           rotate_left
           ·simp only [Act.put, List.setIfInBounds_toArray, List.set_cons_zero, List.set_cons_succ, i64_w, i32_w]
            rfl
           refine pure_ (i := 7) (N := some 61) (v := ?_) (a' := ?_) #[true, true, true, true, true, true, true, true, false, true, false, false] rfl rfl (any_of HT_.out (by kernel_rfl)) (fun _ _ _ h => h) (Or.inl ⟨by rfl, ?_⟩) ?_ ?_
           rotate_left
           ·intro w'
            go_simp
            with_reducible rfl
           rotate_left
           ·simp only [Act.put, List.setIfInBounds_toArray, List.set_cons_zero, List.set_cons_succ, i64_w, i32_w]
            rfl
           exact norm_ (by first | (simp only [putAll, Act.put, List.setIfInBounds_toArray, List.set_cons_zero, List.set_cons_succ]; done) | (simp only [putAll, Act.put, List.setIfInBounds_toArray, List.set_cons_zero, List.set_cons_succ]; rfl)) (hJ1_3_4_9 (SA, SB, Q', R', 0, g9) _ ⟨hHeld, fA, fB, hQ, hR, (f9.below hb), l9⟩)
          ·skip
           have hOld := hHeld
           refine value_ (by rfl) rfl (ex_alloc rfl HZZ.out) ?_
           refine hK.out _ _ ((below_alloc hHeld _)) (fun hHeld => ?_)
           clear hK K
           refine norm_ (a' := ?_) ?_ ?_
           rotate_left
           ·show Act.put _ (some 12) _ = _
            simp only [Act.put, List.setIfInBounds_toArray, List.set_cons_zero, List.set_cons_succ, i64_w, i32_w]
            rfl
           exact norm_ (by first | (simp only [putAll, Act.put, List.setIfInBounds_toArray, List.set_cons_zero, List.set_cons_succ]; done) | (simp only [putAll, Act.put, List.setIfInBounds_toArray, List.set_cons_zero, List.set_cons_succ]; rfl)) (hJ1_3_8_9 (SA, SB, #[], #[], wd1_3_9.heap.size, g9) _ ⟨hHeld, fA, fB, (blk_new _ _), hOld.size, (f9.below (below_alloc (Below.refl _ _) _)), l9, (Nat.ne_of_gt f9.lt)⟩)
        ·skip
         rintro ⟨SA, SB, Q, R, g8, g9⟩ wd1_3_8 ⟨hHeld, fA, fB, f8, l8⟩
         refine norm_ (a' := ?_) ?_ ?_
         rotate_left
         ·simp only [putAll, Act.put, List.setIfInBounds_toArray, List.set_cons_zero, List.set_cons_succ]
          rfl
         refine two_ (i := 4) (j := 9) (Ni := some 59) (Nj := some 13) #[true, true, true, true, true, false, false, false, true, false, false, false] #[true, true, true, true, false, false, false, false, true, true, false, false] rfl rfl rfl rfl (two_of HT_.out (by kernel_rfl)) (by decide) (by decide) (fun K hK => ?_) (fun K hK => ?_)
         ·skip
          have hOld := hHeld
          refine goes_ Tryd.func32 (by kernel_rfl) rfl #[.agg SA, .agg SB] (by rfl) rfl rfl (by simp only [List.map_toArray, List.map_cons, List.map_nil]; rfl) ?_
          refine (divide_calls SA SB (sizeBV a) (sizeBV b) _ fA fB HPOS.out).mono ?_
          rintro e wn1_3_8x4 ⟨Q', R', rfl, hQ, hR, hb⟩
          refine ⟨_, rfl, ?_⟩
          refine hK.out _ _ ((below_step hHeld hb)) (fun hHeld => ?_)
          clear hK K
          refine norm_ (a' := ?_) ?_ ?_
          rotate_left
          ·show Act.put _ (some 59) _ = _
           simp only [Act.put, List.setIfInBounds_toArray, List.set_cons_zero, List.set_cons_succ, i64_w, i32_w]
           rfl
          refine pure_ (i := 5) (N := some 54) (v := ?_) (a' := ?_) #[true, true, true, true, true, true, false, false, true, false, false, false] rfl rfl (any_of HT_.out (by kernel_rfl)) (fun _ _ _ h => h) (Or.inl ⟨by rfl, ?_⟩) ?_ ?_
          rotate_left
          ·intro w'
           go_simp
           with_reducible rfl
          rotate_left
          ·simp only [Act.put, List.setIfInBounds_toArray, List.set_cons_zero, List.set_cons_succ, i64_w, i32_w]
           rfl
          refine pure_ (i := 6) (N := some 60) (v := ?_) (a' := ?_) #[true, true, true, true, true, true, true, false, true, false, false, false] rfl rfl (any_of HT_.out (by kernel_rfl)) (fun _ _ _ h => h) (Or.inl ⟨by rfl, ?_⟩) ?_ ?_
          rotate_left
          ·intro w'
           go_simp
           with_reducible rfl
          rotate_left
          ·simp only [Act.put, List.setIfInBounds_toArray, List.set_cons_zero, List.set_cons_succ, i64_w, i32_w]
           rfl
          refine pure_ (i := 7) (N := some 61) (v := ?_) (a' := ?_) (tf 9 3) rfl rfl (any_of HT_.out (by kernel_rfl)) (fun _ _ _ h => h) (Or.inl ⟨by rfl, ?_⟩) ?_ ?_
          rotate_left
          ·intro w'
           go_simp
           with_reducible rfl
          rotate_left
          ·simp only [Act.put, List.setIfInBounds_toArray, List.set_cons_zero, List.set_cons_succ, i64_w, i32_w]
           rfl
          exact norm_ (by first | (simp only [putAll, Act.put, List.setIfInBounds_toArray, List.set_cons_zero, List.set_cons_succ]; done) | (simp only [putAll, Act.put, List.setIfInBounds_toArray, List.set_cons_zero, List.set_cons_succ]; rfl)) (hJ1_3_4_8 (SA, SB, Q', R', g8, 0) _ ⟨hHeld, fA, fB, hQ, hR, (f8.below hb), l8⟩)
         ·skip
          have hOld := hHeld
          refine value_ (by rfl) rfl (ex_alloc rfl HZZ.out) ?_
          refine hK.out _ _ ((below_alloc hHeld _)) (fun hHeld => ?_)
          clear hK K
          refine norm_ (a' := ?_) ?_ ?_
          rotate_left
          ·show Act.put _ (some 13) _ = _
           simp only [Act.put, List.setIfInBounds_toArray, List.set_cons_zero, List.set_cons_succ, i64_w, i32_w]
           rfl
          exact norm_ (by first | (simp only [putAll, Act.put, List.setIfInBounds_toArray, List.set_cons_zero, List.set_cons_succ]; done) | (simp only [putAll, Act.put, List.setIfInBounds_toArray, List.set_cons_zero, List.set_cons_succ]; rfl)) (hJ1_3_8_9 (SA, SB, #[], #[], g8, wd1_3_8.heap.size) _ ⟨hHeld, fA, fB, (f8.below (below_alloc (Below.refl _ _) _)), l8, (blk_new _ _), hOld.size, (Nat.ne_of_lt f8.lt)⟩)
       ·skip
        rintro ⟨SA, SB, Q, R, g8, g9⟩ wd1_3_4 ⟨hHeld, fA, fB, fQ, fR⟩
        refine norm_ (a' := ?_) ?_ ?_
        rotate_left
        ·simp only [putAll, Act.put, List.setIfInBounds_toArray, List.set_cons_zero, List.set_cons_succ]
         rfl
        refine two_ (i := 8) (j := 9) (Ni := some 12) (Nj := some 13) (tf 9 3) #[true, true, true, true, true, true, true, true, false, true, false, false] rfl rfl rfl rfl (two_of HT_.out (by kernel_rfl)) (by decide) (by decide) (fun K hK => ?_) (fun K hK => ?_)
        ·skip
         have hOld := hHeld
         refine value_ (by rfl) rfl (ex_alloc rfl HZZ.out) ?_
         refine hK.out _ _ ((below_alloc hHeld _)) (fun hHeld => ?_)
         clear hK K
         refine norm_ (a' := ?_) ?_ ?_
         rotate_left
         ·show Act.put _ (some 12) _ = _
          simp only [Act.put, List.setIfInBounds_toArray, List.set_cons_zero, List.set_cons_succ, i64_w, i32_w]
          rfl
         exact norm_ (by first | (simp only [putAll, Act.put, List.setIfInBounds_toArray, List.set_cons_zero, List.set_cons_succ]; done) | (simp only [putAll, Act.put, List.setIfInBounds_toArray, List.set_cons_zero, List.set_cons_succ]; rfl)) (hJ1_3_4_8 (SA, SB, Q, R, wd1_3_4.heap.size, 0) _ ⟨hHeld, fA, fB, fQ, fR, (blk_new _ _), hOld.size⟩)
        ·skip
         have hOld := hHeld
         refine value_ (by rfl) rfl (ex_alloc rfl HZZ.out) ?_
         refine hK.out _ _ ((below_alloc hHeld _)) (fun hHeld => ?_)
         clear hK K
         refine norm_ (a' := ?_) ?_ ?_
         rotate_left
         ·show Act.put _ (some 13) _ = _
          simp only [Act.put, List.setIfInBounds_toArray, List.set_cons_zero, List.set_cons_succ, i64_w, i32_w]
          rfl
         exact norm_ (by first | (simp only [putAll, Act.put, List.setIfInBounds_toArray, List.set_cons_zero, List.set_cons_succ]; done) | (simp only [putAll, Act.put, List.setIfInBounds_toArray, List.set_cons_zero, List.set_cons_succ]; rfl)) (hJ1_3_4_9 (SA, SB, Q, R, 0, wd1_3_4.heap.size) _ ⟨hHeld, fA, fB, fQ, fR, (blk_new _ _), hOld.size⟩)
      ·skip
       rintro ⟨SA, SB, Q, R, g8, g9⟩ wd1_3_8_9 ⟨hHeld, fA, fB, f8, l8, f9, l9, f89⟩
       refine norm_ (a' := ?_) ?_ ?_
       rotate_left
       ·simp only [putAll, Act.put, List.setIfInBounds_toArray, List.set_cons_zero, List.set_cons_succ]
        rfl
       refine one_ (i := 4) (N := some 59) #[true, true, true, true, true, false, false, false, true, true, false, false] rfl rfl (one_of HT_.out (by kernel_rfl)) (by decide) (fun K hK => ?_)
       have hOld := hHeld
       refine goes_ Tryd.func32 (by kernel_rfl) rfl #[.agg SA, .agg SB] (by rfl) rfl rfl (by simp only [List.map_toArray, List.map_cons, List.map_nil]; rfl) ?_
       refine (divide_calls SA SB (sizeBV a) (sizeBV b) _ fA fB HPOS.out).mono ?_
       rintro e wn1_3_8_9x4 ⟨Q', R', rfl, hQ, hR, hb⟩
       refine ⟨_, rfl, ?_⟩
       refine hK.out _ _ ((below_step hHeld hb)) (fun hHeld => ?_)
       clear hK K
       refine norm_ (a' := ?_) ?_ ?_
       rotate_left
       ·show Act.put _ (some 59) _ = _
        simp only [Act.put, List.setIfInBounds_toArray, List.set_cons_zero, List.set_cons_succ, i64_w, i32_w]
        rfl
       refine pure_ (i := 5) (N := some 54) (v := ?_) (a' := ?_) #[true, true, true, true, true, true, false, false, true, true, false, false] rfl rfl (any_of HT_.out (by kernel_rfl)) (fun _ _ _ h => h) (Or.inl ⟨by rfl, ?_⟩) ?_ ?_
       rotate_left
       ·intro w'
        go_simp
        with_reducible rfl
       rotate_left
       ·simp only [Act.put, List.setIfInBounds_toArray, List.set_cons_zero, List.set_cons_succ, i64_w, i32_w]
        rfl
       refine pure_ (i := 6) (N := some 60) (v := ?_) (a' := ?_) #[true, true, true, true, true, true, true, false, true, true, false, false] rfl rfl (any_of HT_.out (by kernel_rfl)) (fun _ _ _ h => h) (Or.inl ⟨by rfl, ?_⟩) ?_ ?_
       rotate_left
       ·intro w'
        go_simp
        with_reducible rfl
       rotate_left
       ·simp only [Act.put, List.setIfInBounds_toArray, List.set_cons_zero, List.set_cons_succ, i64_w, i32_w]
        rfl
       refine pure_ (i := 7) (N := some 61) (v := ?_) (a' := ?_) (tf 10 2) rfl rfl (any_of HT_.out (by kernel_rfl)) (fun _ _ _ h => h) (Or.inl ⟨by rfl, ?_⟩) ?_ ?_
       rotate_left
       ·intro w'
        go_simp
        with_reducible rfl
       rotate_left
       ·simp only [Act.put, List.setIfInBounds_toArray, List.set_cons_zero, List.set_cons_succ, i64_w, i32_w]
        rfl
       exact norm_ (by first | (simp only [putAll, Act.put, List.setIfInBounds_toArray, List.set_cons_zero, List.set_cons_succ]; done) | (simp only [putAll, Act.put, List.setIfInBounds_toArray, List.set_cons_zero, List.set_cons_succ]; rfl)) (hJ1_3_4_8_9 (SA, SB, Q', R', g8, g9) _ ⟨hHeld, fA, fB, hQ, hR, (f8.below hb), l8, (f9.below hb), l9, f89⟩)
     ·skip
      rintro ⟨SA, SB, Q, R, g8, g9⟩ wd1_3_4_9 ⟨hHeld, fA, fB, fQ, fR, f9, l9⟩
      refine norm_ (a' := ?_) ?_ ?_
      rotate_left
      ·simp only [putAll, Act.put, List.setIfInBounds_toArray, List.set_cons_zero, List.set_cons_succ]
       rfl
      refine one_ (i := 8) (N := some 12) (tf 10 2) rfl rfl (one_of HT_.out (by kernel_rfl)) (by decide) (fun K hK => ?_)
      have hOld := hHeld
      refine value_ (by rfl) rfl (ex_alloc rfl HZZ.out) ?_
      refine hK.out _ _ ((below_alloc hHeld _)) (fun hHeld => ?_)
      clear hK K
      refine norm_ (a' := ?_) ?_ ?_
      rotate_left
      ·show Act.put _ (some 12) _ = _
       simp only [Act.put, List.setIfInBounds_toArray, List.set_cons_zero, List.set_cons_succ, i64_w, i32_w]
       rfl
      exact norm_ (by first | (simp only [putAll, Act.put, List.setIfInBounds_toArray, List.set_cons_zero, List.set_cons_succ]; done) | (simp only [putAll, Act.put, List.setIfInBounds_toArray, List.set_cons_zero, List.set_cons_succ]; rfl)) (hJ1_3_4_8_9 (SA, SB, Q, R, wd1_3_4_9.heap.size, g9) _ ⟨hHeld, fA, fB, fQ, fR, (blk_new _ _), hOld.size, (f9.below (below_alloc (Below.refl _ _) _)), l9, (Nat.ne_of_gt f9.lt)⟩)
    ·skip
     rintro ⟨SA, SB, Q, R, g8, g9⟩ wd1_3_4_8 ⟨hHeld, fA, fB, fQ, fR, f8, l8⟩
     refine norm_ (a' := ?_) ?_ ?_
     rotate_left
     ·simp only [putAll, Act.put, List.setIfInBounds_toArray, List.set_cons_zero, List.set_cons_succ]
      rfl
     refine one_ (i := 9) (N := some 13) (tf 10 2) rfl rfl (one_of HT_.out (by kernel_rfl)) (by decide) (fun K hK => ?_)
     have hOld := hHeld
     refine value_ (by rfl) rfl (ex_alloc rfl HZZ.out) ?_
     refine hK.out _ _ ((below_alloc hHeld _)) (fun hHeld => ?_)
     clear hK K
     refine norm_ (a' := ?_) ?_ ?_
     rotate_left
     ·show Act.put _ (some 13) _ = _
      simp only [Act.put, List.setIfInBounds_toArray, List.set_cons_zero, List.set_cons_succ, i64_w, i32_w]
      rfl
     exact norm_ (by first | (simp only [putAll, Act.put, List.setIfInBounds_toArray, List.set_cons_zero, List.set_cons_succ]; done) | (simp only [putAll, Act.put, List.setIfInBounds_toArray, List.set_cons_zero, List.set_cons_succ]; rfl)) (hJ1_3_4_8_9 (SA, SB, Q, R, g8, wd1_3_4_8.heap.size) _ ⟨hHeld, fA, fB, fQ, fR, (f8.below (below_alloc (Below.refl _ _) _)), l8, (blk_new _ _), hOld.size, (Nat.ne_of_lt f8.lt)⟩)
   rintro ⟨SA, SB, Q, R, g8, g9⟩ wd1_3_4_8_9 ⟨hHeld, fA, fB, fQ, fR, f8, l8, f9, l9, f89⟩
   refine norm_ (a' := ?_) ?_ ?_
   rotate_left
   ·simp only [putAll, Act.put, List.setIfInBounds_toArray, List.set_cons_zero, List.set_cons_succ]
    rfl
   refine one_ (i := 10) (N := none) (tf 11 1) rfl rfl (one_of HT_.out (by kernel_rfl)) (by decide) (fun K hK => ?_)
   refine skip_ (by rfl) rfl (ex_st _ _ rfl rfl rfl f8 HZ0.out fQ) ?_
   refine hK.out _ _ ((hHeld.grown grownBy_setRow hHeld.size (fun k e => by cases e; exact l8))) (fun hHeld => ?_)
   clear hK K
   refine last_ (i := 11) (N := none) (tf 12 0) rfl rfl (one_of HT_.out (by kernel_rfl)) (by decide) (fun K hK => ?_)
   refine skip_ (by rfl) rfl (ex_st _ _ rfl rfl rfl (f9.grown (grownBy_setRow (D := Q)) (Ne.symm f89)) HZ0.out fR) ?_
   refine hK.out _ _ ?_
   clear hK K
   refine done_ (done_of HT_.out (by kernel_rfl)) ?_
   have HB20 := Aside0.mk (hHeld.grown (grownBy_setRow (g := g9) (D := R)) hHeld.size (fun k e => by cases e; exact l9))
   have HXQ := Aside0.mk ((f8.row Q).grown (grownBy_setRow (g := g9) (D := R)) f89)
   have HXR := Aside0.mk (Blk.row (f9.grown (grownBy_setRow (g := g8) (D := Q)) (Ne.symm f89)) R)
   have HFQ := Aside0.mk fQ; have HFR := Aside0.mk fR
   have HN8 : Aside0 (g8 ≠ go ∧ g9 ≠ go) := ⟨Nat.ne_of_gt (Nat.lt_of_lt_of_le HXO.out.lt l8), Nat.ne_of_gt (Nat.lt_of_lt_of_le HXO.out.lt l9)⟩
   have HXA := Aside0.mk (HXA.out.below HB20.out); have HXB := Aside0.mk (HXB.out.below HB20.out); have HXO := Aside0.mk (HXO.out.below HB20.out); have HBW := Aside0.mk (below_step HBW.out HB20.out)
   clear hHeld fA fB fQ fR f8 l8 f9 l9 f89 HB20
   generalize (wd1_3_4_8_9.setRow g8 Q).setRow g9 R = wf at HXA HXB HXO HBW HXQ HXR ⊢
   go_upto_region 21 with (fail)
   apply wp_region_lit
   refine s_load rfl _ rfl rfl HXQ.out HFQ.out ?_
   refine s_store rfl _ _ rfl rfl rfl HXO.out HCO.out HFQ.out ?_
   intro w8 hb8 hg8
   have HXA := Aside0.mk (HXA.out.grown hg8 HNE.out.1); have HXB := Aside0.mk (HXB.out.grown hg8 HNE.out.2); have HBW := Aside0.mk (HBW.out.grown hg8 HBW.out.size (fun k e => by cases e; exact HGE.out)); have HXQ := Aside0.mk (HXQ.out.grown hg8 HN8.out.1); have HXR := Aside0.mk (HXR.out.grown hg8 HN8.out.2)
   have HXO := Aside0.mk hb8
   have HCO := Aside0.mk HFQ.out
   clear hb8 hg8
   have hcp := HXA.out.cell HCA.out (i := 63) (by decide)
   have hcq := HXB.out.cell HCB.out (i := 63) (by decide)
   rw [← HPP.out] at hcp
   rw [← HQQ.out] at hcq
   by_cases hpq : p = q
   ·have hpq0 : (p == q) = true := by rw [hpq]; simp
    clear hpq
    go_upto_region 25 with (fail)
    clear hcp hcq hpq0
    apply wp_region_lit
    refine s_load rfl _ rfl rfl HXR.out HFR.out ?_
    refine s_store rfl _ _ rfl rfl rfl HXO.out HCO.out HFR.out ?_
    intro w8 hb8 hg8
    have HXA := Aside0.mk (HXA.out.grown hg8 HNE.out.1); have HXB := Aside0.mk (HXB.out.grown hg8 HNE.out.2); have HBW := Aside0.mk (HBW.out.grown hg8 HBW.out.size (fun k e => by cases e; exact HGE.out)); have HXQ := Aside0.mk (HXQ.out.grown hg8 HN8.out.1); have HXR := Aside0.mk (HXR.out.grown hg8 HN8.out.2)
    have HXO := Aside0.mk hb8
    have HCO := Aside0.mk HFR.out
    clear hb8 hg8
    have hcp := HXA.out.cell HCA.out (i := 63) (by decide)
    rw [← HPP.out] at hcp
    cases p with
    | true =>
     have HR1 : Aside0 (r1 = (-(sizeBV a % sizeBV b)).toInt) := ⟨by rw [HR1q.out]; rfl⟩
     go_upto_region 27 with (fail)
     apply wp_region_lit
     refine s_load rfl _ rfl rfl HXR.out HFR.out ?_
     clear hcp
     go_wp2_with fail
     refine (neg_calls R _ _ HFR.out).mono ?_
     rintro e w5 ⟨D, rfl, hD, hB5⟩
     have HXO := Aside0.mk (HXO.out.below hB5); have HXA := Aside0.mk (HXA.out.below hB5); have HXB := Aside0.mk (HXB.out.below hB5); have HBW := Aside0.mk (below_step HBW.out hB5); have HXQ := Aside0.mk (HXQ.out.below hB5); have HXR := Aside0.mk (HXR.out.below hB5)
     have HD := Aside0.mk hD
     clear hB5 hD
     go_upto_region 67 with (refine s_store rfl _ _ rfl rfl rfl HXO.out HCO.out HD.out ?_; intro w8 hb8 hg8; have HXA := Aside0.mk (HXA.out.grown hg8 HNE.out.1); have HXB := Aside0.mk (HXB.out.grown hg8 HNE.out.2); have HBW := Aside0.mk (HBW.out.grown hg8 HBW.out.size (fun k e => by cases e; exact HGE.out)); have HXQ := Aside0.mk (HXQ.out.grown hg8 HN8.out.1); have HXR := Aside0.mk (HXR.out.grown hg8 HN8.out.2); have HXO := Aside0.mk hb8; have HCO := Aside0.mk HD.out; clear hb8 hg8)
     go_upto_region 67 with (fail)
     apply wp_region_lit
     refine s_load rfl _ rfl rfl HXO.out HCO.out ?_
     go_wp2_with fail
     obtain ⟨z, hz⟩ : ∃ z, z = ((-(sizeBV a % sizeBV b)) : BitVec 64).toInt := ⟨_, rfl⟩
     refine (To_calls _ (-(sizeBV a % sizeBV b)) _ HCO.out).mono ?_
     rintro e w9 ⟨rfl, hB9⟩
     rw [← hz]
     have HZ := Aside0.mk hz
     clear hz
     go_wp2
     go_ret2
     exact ⟨by rw [HR1.out, HR2.out, HZ.out]; rfl, below_step HBW.out hB9⟩
    | false =>
     have HR1 : Aside0 (r1 = (sizeBV a % sizeBV b).toInt) := ⟨by rw [HR1q.out]; rfl⟩
     go_upto_region 67 with (fail)
     apply wp_region_lit
     refine s_load rfl _ rfl rfl HXO.out HCO.out ?_
     go_wp2_with fail
     obtain ⟨z, hz⟩ : ∃ z, z = ((sizeBV a % sizeBV b) : BitVec 64).toInt := ⟨_, rfl⟩
     refine (To_calls _ (sizeBV a % sizeBV b) _ HCO.out).mono ?_
     rintro e w9 ⟨rfl, hB9⟩
     rw [← hz]
     have HZ := Aside0.mk hz
     clear hz
     go_wp2
     go_ret2
     exact ⟨by rw [HR1.out, HR2.out, HZ.out]; rfl, below_step HBW.out hB9⟩
   ·have hpq0 : (p == q) = false := by simpa using hpq
    clear hpq
    go_upto_region 23 with (fail)
    apply wp_region_lit
    refine s_load rfl _ rfl rfl HXQ.out HFQ.out ?_
    clear hcp hcq hpq0
    go_wp2_with fail
    refine (neg_calls Q _ _ HFQ.out).mono ?_
    rintro e w5 ⟨D, rfl, hD, hB5⟩
    have HXO := Aside0.mk (HXO.out.below hB5); have HXA := Aside0.mk (HXA.out.below hB5); have HXB := Aside0.mk (HXB.out.below hB5); have HBW := Aside0.mk (below_step HBW.out hB5); have HXQ := Aside0.mk (HXQ.out.below hB5); have HXR := Aside0.mk (HXR.out.below hB5)
    have HD := Aside0.mk hD
    clear hB5 hD
    go_upto_region 25 with (refine s_store rfl _ _ rfl rfl rfl HXO.out HCO.out HD.out ?_; intro w8 hb8 hg8; have HXA := Aside0.mk (HXA.out.grown hg8 HNE.out.1); have HXB := Aside0.mk (HXB.out.grown hg8 HNE.out.2); have HBW := Aside0.mk (HBW.out.grown hg8 HBW.out.size (fun k e => by cases e; exact HGE.out)); have HXQ := Aside0.mk (HXQ.out.grown hg8 HN8.out.1); have HXR := Aside0.mk (HXR.out.grown hg8 HN8.out.2); have HXO := Aside0.mk hb8; have HCO := Aside0.mk HD.out; clear hb8 hg8)
    apply wp_region_lit
    refine s_load rfl _ rfl rfl HXR.out HFR.out ?_
    refine s_store rfl _ _ rfl rfl rfl HXO.out HCO.out HFR.out ?_
    intro w8 hb8 hg8
    have HXA := Aside0.mk (HXA.out.grown hg8 HNE.out.1); have HXB := Aside0.mk (HXB.out.grown hg8 HNE.out.2); have HBW := Aside0.mk (HBW.out.grown hg8 HBW.out.size (fun k e => by cases e; exact HGE.out)); have HXQ := Aside0.mk (HXQ.out.grown hg8 HN8.out.1); have HXR := Aside0.mk (HXR.out.grown hg8 HN8.out.2)
    have HXO := Aside0.mk hb8
    have HCO := Aside0.mk HFR.out
    clear hb8 hg8
    have hcp := HXA.out.cell HCA.out (i := 63) (by decide)
    rw [← HPP.out] at hcp
    cases p with
    | true =>
     have HR1 : Aside0 (r1 = (-(sizeBV a % sizeBV b)).toInt) := ⟨by rw [HR1q.out]; rfl⟩
     go_upto_region 27 with (fail)
     apply wp_region_lit
     refine s_load rfl _ rfl rfl HXR.out HFR.out ?_
     clear hcp
     go_wp2_with fail
     refine (neg_calls R _ _ HFR.out).mono ?_
     rintro e w5 ⟨D, rfl, hD, hB5⟩
     have HXO := Aside0.mk (HXO.out.below hB5); have HXA := Aside0.mk (HXA.out.below hB5); have HXB := Aside0.mk (HXB.out.below hB5); have HBW := Aside0.mk (below_step HBW.out hB5); have HXQ := Aside0.mk (HXQ.out.below hB5); have HXR := Aside0.mk (HXR.out.below hB5)
     have HD := Aside0.mk hD
     clear hB5 hD
     go_upto_region 67 with (refine s_store rfl _ _ rfl rfl rfl HXO.out HCO.out HD.out ?_; intro w8 hb8 hg8; have HXA := Aside0.mk (HXA.out.grown hg8 HNE.out.1); have HXB := Aside0.mk (HXB.out.grown hg8 HNE.out.2); have HBW := Aside0.mk (HBW.out.grown hg8 HBW.out.size (fun k e => by cases e; exact HGE.out)); have HXQ := Aside0.mk (HXQ.out.grown hg8 HN8.out.1); have HXR := Aside0.mk (HXR.out.grown hg8 HN8.out.2); have HXO := Aside0.mk hb8; have HCO := Aside0.mk HD.out; clear hb8 hg8)
     go_upto_region 67 with (fail)
     apply wp_region_lit
     refine s_load rfl _ rfl rfl HXO.out HCO.out ?_
     go_wp2_with fail
     obtain ⟨z, hz⟩ : ∃ z, z = ((-(sizeBV a % sizeBV b)) : BitVec 64).toInt := ⟨_, rfl⟩
     refine (To_calls _ (-(sizeBV a % sizeBV b)) _ HCO.out).mono ?_
     rintro e w9 ⟨rfl, hB9⟩
     rw [← hz]
     have HZ := Aside0.mk hz
     clear hz
     go_wp2
     go_ret2
     exact ⟨by rw [HR1.out, HR2.out, HZ.out]; rfl, below_step HBW.out hB9⟩
    | false =>
     have HR1 : Aside0 (r1 = (sizeBV a % sizeBV b).toInt) := ⟨by rw [HR1q.out]; rfl⟩
     go_upto_region 67 with (fail)
     apply wp_region_lit
     refine s_load rfl _ rfl rfl HXO.out HCO.out ?_
     go_wp2_with fail
     obtain ⟨z, hz⟩ : ∃ z, z = ((sizeBV a % sizeBV b) : BitVec 64).toInt := ⟨_, rfl⟩
     refine (To_calls _ (sizeBV a % sizeBV b) _ HCO.out).mono ?_
     rintro e w9 ⟨rfl, hB9⟩
     rw [← hz]
     have HZ := Aside0.mk hz
     clear hz
     go_wp2
     go_ret2
     exact ⟨by rw [HR1.out, HR2.out, HZ.out]; rfl, below_step HBW.out hB9⟩
 by_cases h6 : op = 6
 ·subst h6
  have HR1 : Aside0 (r1 = (doB 6 a b y).1) := ⟨by rw [HR.out]⟩
  have HR2 : Aside0 (r2 = (doB 6 a b y).2) := ⟨by rw [HR.out]⟩
  clear HR
  go_upto_region 32 with (fail)
  have H0 : Aside0 (Bits O (fun j => decide (j < 0) && ((a &&& b)).getLsbD j)) := ⟨HCO.out.congr (fun i _ => by simp [off])⟩
  go_loopw [14] (fun v14 wr => ∃ (i : Nat) (D : Array Value), v14 = .int .i64 i ∧ i ≤ 64 ∧ Aside0 (Bits D (fun j => decide (j < i) && ((a &&& b)).getLsbD j)) ∧ Aside0 (Blk wr go D) ∧ Aside0 (Blk wr ga A) ∧ Aside0 (Blk wr gb B) ∧ Aside0 (Below w.heap.size w wr)) (fun v14 _ => 64 - (intOf v14).toNat)
  case atStart => exact ⟨0, O, rfl, by decide, H0, HXO, HXA, HXB, HBW⟩
  case round =>
   clear H0 HXO HXA HXB HBW
   obtain ⟨i, D, rfl, hi, HD, HXO, HXA, HXB, HBW⟩ := hrel
   by_cases hlt : i < 64
   ·have hc0 := HXA.out.cell HCA.out hlt
    have hc1 := HXB.out.cell HCB.out hlt
    have hc2 := HXO.out.cell HD.out hlt
    have hf2 := HXO.out.frozen i
    have HV : Aside0 (((a &&& b)).getLsbD i = and (a.getLsbD i) (b.getLsbD i)) := ⟨by simp [hlt]⟩
    obtain ⟨E, hE, hbE, hgE⟩ := set_bit HXO.out HD.out hlt (((a &&& b)).getLsbD i)
    have HJ : Aside0 (∀ j, j < 64 → (if j = i then ((a &&& b)).getLsbD i else (decide (j < i) && ((a &&& b)).getLsbD j)) = (decide (j < i + 1) && ((a &&& b)).getLsbD j)) := ⟨fun j hj => by
     by_cases e : j = i
     ·subst e; simp
     ·rw [if_neg e, show decide (j < i) = decide (j < i + 1) from decide_eq_decide.mpr (by omega)]⟩
    have HE := Aside0.mk hE; have HBE := Aside0.mk hbE; have HGD := Aside0.mk hgE
    clear hE hbE hgE
    obtain ⟨p, hp⟩ : ∃ p, p = a.getLsbD i := ⟨_, rfl⟩
    obtain ⟨q, hq⟩ : ∃ q, q = b.getLsbD i := ⟨_, rfl⟩
    rw [← hp] at hc0 HV
    rw [← hq] at hc1 HV
    clear hp hq
    rw [HV.out] at HBE HGD
    cases p <;> cases q
    all_goals
     go_wp2
     go_region
     go_wp2
     refine ⟨⟨i + 1, E, by simp, by omega, ⟨HE.out.congr HJ.out⟩, ⟨HBE.out⟩, ⟨(HXA.out.grown HGD.out HNE.out.1).below (below_drew (Below.refl _ _))⟩, ⟨(HXB.out.grown HGD.out HNE.out.2).below (below_drew (Below.refl _ _))⟩, ⟨below_drew1 (HBW.out.grown HGD.out HBW.out.size (fun k e => by cases e; exact HGE.out))⟩⟩, ?_⟩
     show 64 - ((i : Int) + 1).toNat < 64 - (i : Int).toNat
     omega
   ·have e : i = 64 := by omega
    subst e
    have HCO : Aside0 (Bits D (fun j => ((a &&& b)).getLsbD j)) := ⟨HD.out.congr (fun j hj => by simp [hj])⟩
    go_upto_region 67 with (fail)
    apply wp_region_lit
    refine s_load rfl _ rfl rfl HXO.out HCO.out ?_
    go_wp2_with fail
    obtain ⟨z, hz⟩ : ∃ z, z = ((a &&& b) : BitVec 64).toInt := ⟨_, rfl⟩
    refine (To_calls _ (a &&& b) _ HCO.out).mono ?_
    rintro e w9 ⟨rfl, hB9⟩
    rw [← hz]
    have HZ := Aside0.mk hz
    clear hz
    go_wp2
    go_ret2
    exact ⟨by rw [HR1.out, HR2.out, HZ.out]; rfl, below_step HBW.out hB9⟩
 by_cases h7 : op = 7
 ·subst h7
  have HR1 : Aside0 (r1 = (doB 7 a b y).1) := ⟨by rw [HR.out]⟩
  have HR2 : Aside0 (r2 = (doB 7 a b y).2) := ⟨by rw [HR.out]⟩
  clear HR
  go_upto_region 32 with (fail)
  have H0 : Aside0 (Bits O (fun j => decide (j < 0) && ((a ||| b)).getLsbD j)) := ⟨HCO.out.congr (fun i _ => by simp [off])⟩
  go_loopw [14] (fun v14 wr => ∃ (i : Nat) (D : Array Value), v14 = .int .i64 i ∧ i ≤ 64 ∧ Aside0 (Bits D (fun j => decide (j < i) && ((a ||| b)).getLsbD j)) ∧ Aside0 (Blk wr go D) ∧ Aside0 (Blk wr ga A) ∧ Aside0 (Blk wr gb B) ∧ Aside0 (Below w.heap.size w wr)) (fun v14 _ => 64 - (intOf v14).toNat)
  case atStart => exact ⟨0, O, rfl, by decide, H0, HXO, HXA, HXB, HBW⟩
  case round =>
   clear H0 HXO HXA HXB HBW
   obtain ⟨i, D, rfl, hi, HD, HXO, HXA, HXB, HBW⟩ := hrel
   by_cases hlt : i < 64
   ·have hc0 := HXA.out.cell HCA.out hlt
    have hc1 := HXB.out.cell HCB.out hlt
    have hc2 := HXO.out.cell HD.out hlt
    have hf2 := HXO.out.frozen i
    have HV : Aside0 (((a ||| b)).getLsbD i = or (a.getLsbD i) (b.getLsbD i)) := ⟨by simp [hlt]⟩
    obtain ⟨E, hE, hbE, hgE⟩ := set_bit HXO.out HD.out hlt (((a ||| b)).getLsbD i)
    have HJ : Aside0 (∀ j, j < 64 → (if j = i then ((a ||| b)).getLsbD i else (decide (j < i) && ((a ||| b)).getLsbD j)) = (decide (j < i + 1) && ((a ||| b)).getLsbD j)) := ⟨fun j hj => by
     by_cases e : j = i
     ·subst e; simp
     ·rw [if_neg e, show decide (j < i) = decide (j < i + 1) from decide_eq_decide.mpr (by omega)]⟩
    have HE := Aside0.mk hE; have HBE := Aside0.mk hbE; have HGD := Aside0.mk hgE
    clear hE hbE hgE
    obtain ⟨p, hp⟩ : ∃ p, p = a.getLsbD i := ⟨_, rfl⟩
    obtain ⟨q, hq⟩ : ∃ q, q = b.getLsbD i := ⟨_, rfl⟩
    rw [← hp] at hc0 HV
    rw [← hq] at hc1 HV
    clear hp hq
    rw [HV.out] at HBE HGD
    cases p <;> cases q
    all_goals
     go_wp2
     go_region
     go_wp2
     refine ⟨⟨i + 1, E, by simp, by omega, ⟨HE.out.congr HJ.out⟩, ⟨HBE.out⟩, ⟨(HXA.out.grown HGD.out HNE.out.1).below (below_drew (Below.refl _ _))⟩, ⟨(HXB.out.grown HGD.out HNE.out.2).below (below_drew (Below.refl _ _))⟩, ⟨below_drew1 (HBW.out.grown HGD.out HBW.out.size (fun k e => by cases e; exact HGE.out))⟩⟩, ?_⟩
     show 64 - ((i : Int) + 1).toNat < 64 - (i : Int).toNat
     omega
   ·have e : i = 64 := by omega
    subst e
    have HCO : Aside0 (Bits D (fun j => ((a ||| b)).getLsbD j)) := ⟨HD.out.congr (fun j hj => by simp [hj])⟩
    go_upto_region 67 with (fail)
    apply wp_region_lit
    refine s_load rfl _ rfl rfl HXO.out HCO.out ?_
    go_wp2_with fail
    obtain ⟨z, hz⟩ : ∃ z, z = ((a ||| b) : BitVec 64).toInt := ⟨_, rfl⟩
    refine (To_calls _ (a ||| b) _ HCO.out).mono ?_
    rintro e w9 ⟨rfl, hB9⟩
    rw [← hz]
    have HZ := Aside0.mk hz
    clear hz
    go_wp2
    go_ret2
    exact ⟨by rw [HR1.out, HR2.out, HZ.out]; rfl, below_step HBW.out hB9⟩
 by_cases h8 : op = 8
 ·subst h8
  have HR1 : Aside0 (r1 = (doB 8 a b y).1) := ⟨by rw [HR.out]⟩
  have HR2 : Aside0 (r2 = (doB 8 a b y).2) := ⟨by rw [HR.out]⟩
  clear HR
  go_upto_region 32 with (fail)
  have H0 : Aside0 (Bits O (fun j => decide (j < 0) && ((a ^^^ b)).getLsbD j)) := ⟨HCO.out.congr (fun i _ => by simp [off])⟩
  go_loopw [14] (fun v14 wr => ∃ (i : Nat) (D : Array Value), v14 = .int .i64 i ∧ i ≤ 64 ∧ Aside0 (Bits D (fun j => decide (j < i) && ((a ^^^ b)).getLsbD j)) ∧ Aside0 (Blk wr go D) ∧ Aside0 (Blk wr ga A) ∧ Aside0 (Blk wr gb B) ∧ Aside0 (Below w.heap.size w wr)) (fun v14 _ => 64 - (intOf v14).toNat)
  case atStart => exact ⟨0, O, rfl, by decide, H0, HXO, HXA, HXB, HBW⟩
  case round =>
   clear H0 HXO HXA HXB HBW
   obtain ⟨i, D, rfl, hi, HD, HXO, HXA, HXB, HBW⟩ := hrel
   by_cases hlt : i < 64
   ·have hc0 := HXA.out.cell HCA.out hlt
    have hc1 := HXB.out.cell HCB.out hlt
    have hc2 := HXO.out.cell HD.out hlt
    have hf2 := HXO.out.frozen i
    have HV : Aside0 (((a ^^^ b)).getLsbD i = xor (a.getLsbD i) (b.getLsbD i)) := ⟨by simp [hlt]⟩
    obtain ⟨E, hE, hbE, hgE⟩ := set_bit HXO.out HD.out hlt (((a ^^^ b)).getLsbD i)
    have HJ : Aside0 (∀ j, j < 64 → (if j = i then ((a ^^^ b)).getLsbD i else (decide (j < i) && ((a ^^^ b)).getLsbD j)) = (decide (j < i + 1) && ((a ^^^ b)).getLsbD j)) := ⟨fun j hj => by
     by_cases e : j = i
     ·subst e; simp
     ·rw [if_neg e, show decide (j < i) = decide (j < i + 1) from decide_eq_decide.mpr (by omega)]⟩
    have HE := Aside0.mk hE; have HBE := Aside0.mk hbE; have HGD := Aside0.mk hgE
    clear hE hbE hgE
    obtain ⟨p, hp⟩ : ∃ p, p = a.getLsbD i := ⟨_, rfl⟩
    obtain ⟨q, hq⟩ : ∃ q, q = b.getLsbD i := ⟨_, rfl⟩
    rw [← hp] at hc0 HV
    rw [← hq] at hc1 HV
    clear hp hq
    rw [HV.out] at HBE HGD
    cases p <;> cases q
    all_goals
     go_wp2
     go_region
     go_wp2
     refine ⟨⟨i + 1, E, by simp, by omega, ⟨HE.out.congr HJ.out⟩, ⟨HBE.out⟩, ⟨(HXA.out.grown HGD.out HNE.out.1).below (below_drew (Below.refl _ _))⟩, ⟨(HXB.out.grown HGD.out HNE.out.2).below (below_drew (Below.refl _ _))⟩, ⟨below_drew1 (HBW.out.grown HGD.out HBW.out.size (fun k e => by cases e; exact HGE.out))⟩⟩, ?_⟩
     show 64 - ((i : Int) + 1).toNat < 64 - (i : Int).toNat
     omega
   ·have e : i = 64 := by omega
    subst e
    have HCO : Aside0 (Bits D (fun j => ((a ^^^ b)).getLsbD j)) := ⟨HD.out.congr (fun j hj => by simp [hj])⟩
    go_upto_region 67 with (fail)
    apply wp_region_lit
    refine s_load rfl _ rfl rfl HXO.out HCO.out ?_
    go_wp2_with fail
    obtain ⟨z, hz⟩ : ∃ z, z = ((a ^^^ b) : BitVec 64).toInt := ⟨_, rfl⟩
    refine (To_calls _ (a ^^^ b) _ HCO.out).mono ?_
    rintro e w9 ⟨rfl, hB9⟩
    rw [← hz]
    have HZ := Aside0.mk hz
    clear hz
    go_wp2
    go_ret2
    exact ⟨by rw [HR1.out, HR2.out, HZ.out]; rfl, below_step HBW.out hB9⟩
 by_cases h9 : op = 9
 ·subst h9
  have HR1 : Aside0 (r1 = (doB 9 a b y).1) := ⟨by rw [HR.out]⟩
  have HR2 : Aside0 (r2 = (doB 9 a b y).2) := ⟨by rw [HR.out]⟩
  clear HR
  have HNB := Aside0.mk (neg_bit HYB.out HYR.out)
  have hc63 := HXB.out.cell HCB.out (i := 63) (by decide)
  rw [HNB.out] at hc63
  by_cases hy0 : y < 0
  ·have HQ1 : Aside0 (r1 = 0) := ⟨by rw [HR1.out]; unfold doB; rw [HNB.out, decide_eq_true hy0]; rfl⟩
   have HQ2 : Aside0 (r2 = 12) := ⟨by rw [HR2.out]; unfold doB; rw [HNB.out, decide_eq_true hy0]; rfl⟩
   rw [decide_eq_true hy0] at hc63
   clear hy0
   go_wp2
   go_ret2
   exact ⟨by rw [HQ1.out, HQ2.out]; rfl, HBW.out⟩
  ·obtain ⟨N, hN0⟩ : ∃ N, N = min y.toNat 64 := ⟨_, rfl⟩
   have HQ1 : Aside0 (r1 = (a <<< N).toInt) := ⟨by rw [HR1.out, hN0]; unfold doB; rw [HNB.out, decide_eq_false hy0]; rfl⟩
   have HQ2 : Aside0 (r2 = 0) := ⟨by rw [HR2.out]; unfold doB; rw [HNB.out, decide_eq_false hy0]; rfl⟩
   clear HR1 HR2
   have HR1 := HQ1; have HR2 := HQ2
   rw [decide_eq_false hy0] at hc63
   have HN64 : Aside0 (N ≤ 64) := ⟨by omega⟩
   have H0 : Aside0 (Bits O (fun j => decide (j < 0) && (decide (N ≤ j) && a.getLsbD (j - N)))) := ⟨HCO.out.congr (fun i _ => by simp [off])⟩
   by_cases hy64 : y < 64
   ·have hyd : decide (y < 64) = true := decide_eq_true hy64
    have eN : y = (N : Int) := by omega
    clear hy64 hy0 hN0 HQ1 HQ2
    subst eN
    go_upto_region 43 with (fail)
    go_loopw [16] (fun v16 wr => ∃ (i : Nat) (D : Array Value), v16 = .int .i64 i ∧ i ≤ 64 ∧ Aside0 (Bits D (fun j => decide (j < i) && (decide (N ≤ j) && a.getLsbD (j - N)))) ∧ Aside0 (Blk wr go D) ∧ Aside0 (Blk wr ga A) ∧ Aside0 (Blk wr gb B) ∧ Aside0 (Below w.heap.size w wr)) (fun v16 _ => 64 - (intOf v16).toNat)
    case atStart => exact ⟨0, O, rfl, by decide, H0, HXO, HXA, HXB, HBW⟩
    case round =>
     clear H0 HXO HXA HXB HBW
     obtain ⟨i, D, rfl, hi, HD, HXO, HXA, HXB, HBW⟩ := hrel
     have hn64 := HN64.out
     by_cases hlt : i < 64
     ·have hc2 := HXO.out.cell HD.out hlt
      have hf2 := HXO.out.frozen i
      by_cases hN : N ≤ i
      ·have hc0 := HXA.out.cell HCA.out (i := i - N) (by omega)
       have hw : wrap64 ((i : Int) - (N : Int)) = ((i - N : Nat) : Int) := by unfold wrap64; omega
       have hge : decide ((N : Int) ≤ (i : Int)) = true := decide_eq_true (by omega)
       have hlt2 : (((i - N : Nat) : Int) < 64) = True := eq_true (by omega)
       obtain ⟨E, hE, hbE, hgE⟩ := set_bit HXO.out HD.out hlt (a.getLsbD (i - N))
       have HJ : Aside0 (∀ j, j < 64 → (if j = i then a.getLsbD (i - N) else (decide (j < i) && (decide (N ≤ j) && a.getLsbD (j - N)))) = (decide (j < i + 1) && (decide (N ≤ j) && a.getLsbD (j - N)))) := ⟨fun j hj => by
        by_cases e : j = i
        ·subst e; simp [hN]
        ·rw [if_neg e, show decide (j < i) = decide (j < i + 1) from decide_eq_decide.mpr (by omega)]⟩
       have HE := Aside0.mk hE; have HBE := Aside0.mk hbE; have HGD := Aside0.mk hgE
       clear hE hbE hgE
       go_wp2
       refine ⟨⟨i + 1, E, by simp, by omega, ⟨HE.out.congr HJ.out⟩, HBE, ⟨HXA.out.grown HGD.out HNE.out.1⟩, ⟨HXB.out.grown HGD.out HNE.out.2⟩, ⟨HBW.out.grown HGD.out HBW.out.size (fun k e => by cases e; exact HGE.out)⟩⟩, ?_⟩
       show 64 - ((i : Int) + 1).toNat < 64 - (i : Int).toNat
       omega
      ·have hge : decide ((N : Int) ≤ (i : Int)) = false := decide_eq_false (by omega)
       have HJ : Aside0 (∀ j, j < 64 → (decide (j < i) && (decide (N ≤ j) && a.getLsbD (j - N))) = (decide (j < i + 1) && (decide (N ≤ j) && a.getLsbD (j - N)))) := ⟨fun j hj => by
        by_cases e : j = i
        ·subst e; simp [hN]
        ·rw [show decide (j < i) = decide (j < i + 1) from decide_eq_decide.mpr (by omega)]⟩
       go_wp2
       refine ⟨⟨i + 1, D, by simp, by omega, ⟨HD.out.congr HJ.out⟩, HXO, ⟨HXA.out⟩, ⟨HXB.out⟩, ⟨HBW.out⟩⟩, ?_⟩
       show 64 - ((i : Int) + 1).toNat < 64 - (i : Int).toNat
       omega
     ·have e : i = 64 := by omega
      subst e
      have HCO : Aside0 (Bits D (fun j => (a <<< N).getLsbD j)) := ⟨HD.out.congr (fun j hj => by rw [BitVec.getLsbD_shiftLeft]; by_cases h : j < N <;> simp [hj, h] <;> omega)⟩
      go_upto_region 67 with (fail)
      apply wp_region_lit
      refine s_load rfl _ rfl rfl HXO.out HCO.out ?_
      go_wp2_with fail
      obtain ⟨z, hz⟩ : ∃ z, z = ((a <<< N) : BitVec 64).toInt := ⟨_, rfl⟩
      refine (To_calls _ (a <<< N) _ HCO.out).mono ?_
      rintro e w9 ⟨rfl, hB9⟩
      rw [← hz]
      have HZ := Aside0.mk hz
      clear hz
      go_wp2
      go_ret2
      exact ⟨by rw [HR1.out, HR2.out, HZ.out]; rfl, below_step HBW.out hB9⟩
   ·have hyd : decide (y < 64) = false := decide_eq_false hy64
    have eN : N = 64 := by omega
    clear hy64 hy0 hN0 HQ1 HQ2
    subst eN
    go_upto_region 43 with (fail)
    go_loopw [16] (fun v16 wr => ∃ (i : Nat) (D : Array Value), v16 = .int .i64 i ∧ i ≤ 64 ∧ Aside0 (Bits D (fun j => decide (j < i) && (decide (64 ≤ j) && a.getLsbD (j - 64)))) ∧ Aside0 (Blk wr go D) ∧ Aside0 (Blk wr ga A) ∧ Aside0 (Blk wr gb B) ∧ Aside0 (Below w.heap.size w wr)) (fun v16 _ => 64 - (intOf v16).toNat)
    case atStart => exact ⟨0, O, rfl, by decide, H0, HXO, HXA, HXB, HBW⟩
    case round =>
     clear H0 HXO HXA HXB HBW
     obtain ⟨i, D, rfl, hi, HD, HXO, HXA, HXB, HBW⟩ := hrel
     have hn64 := HN64.out
     by_cases hlt : i < 64
     ·have hc2 := HXO.out.cell HD.out hlt
      have hf2 := HXO.out.frozen i
      by_cases hN : 64 ≤ i
      ·exact absurd hlt (by omega)
      ·have hge : decide ((64 : Int) ≤ (i : Int)) = false := decide_eq_false (by omega)
       have HJ : Aside0 (∀ j, j < 64 → (decide (j < i) && (decide (64 ≤ j) && a.getLsbD (j - 64))) = (decide (j < i + 1) && (decide (64 ≤ j) && a.getLsbD (j - 64)))) := ⟨fun j hj => by
        by_cases e : j = i
        ·subst e; simp [hN]
        ·rw [show decide (j < i) = decide (j < i + 1) from decide_eq_decide.mpr (by omega)]⟩
       go_wp2
       refine ⟨⟨i + 1, D, by simp, by omega, ⟨HD.out.congr HJ.out⟩, HXO, ⟨HXA.out⟩, ⟨HXB.out⟩, ⟨HBW.out⟩⟩, ?_⟩
       show 64 - ((i : Int) + 1).toNat < 64 - (i : Int).toNat
       omega
     ·have e : i = 64 := by omega
      subst e
      have HCO : Aside0 (Bits D (fun j => (a <<< 64).getLsbD j)) := ⟨HD.out.congr (fun j hj => by rw [BitVec.getLsbD_shiftLeft]; by_cases h : j < 64 <;> simp [hj, h] <;> omega)⟩
      go_upto_region 67 with (fail)
      apply wp_region_lit
      refine s_load rfl _ rfl rfl HXO.out HCO.out ?_
      go_wp2_with fail
      obtain ⟨z, hz⟩ : ∃ z, z = ((a <<< 64) : BitVec 64).toInt := ⟨_, rfl⟩
      refine (To_calls _ (a <<< 64) _ HCO.out).mono ?_
      rintro e w9 ⟨rfl, hB9⟩
      rw [← hz]
      have HZ := Aside0.mk hz
      clear hz
      go_wp2
      go_ret2
      exact ⟨by rw [HR1.out, HR2.out, HZ.out]; rfl, below_step HBW.out hB9⟩
 by_cases h10 : op = 10
 ·subst h10
  have HR1 : Aside0 (r1 = (doB 10 a b y).1) := ⟨by rw [HR.out]⟩
  have HR2 : Aside0 (r2 = (doB 10 a b y).2) := ⟨by rw [HR.out]⟩
  clear HR
  have HNB := Aside0.mk (neg_bit HYB.out HYR.out)
  have hc63 := HXB.out.cell HCB.out (i := 63) (by decide)
  rw [HNB.out] at hc63
  by_cases hy0 : y < 0
  ·have HQ1 : Aside0 (r1 = 0) := ⟨by rw [HR1.out]; unfold doB; rw [HNB.out, decide_eq_true hy0]; rfl⟩
   have HQ2 : Aside0 (r2 = 12) := ⟨by rw [HR2.out]; unfold doB; rw [HNB.out, decide_eq_true hy0]; rfl⟩
   rw [decide_eq_true hy0] at hc63
   clear hy0
   go_wp2
   go_ret2
   exact ⟨by rw [HQ1.out, HQ2.out]; rfl, HBW.out⟩
  ·obtain ⟨N, hN0⟩ : ∃ N, N = min y.toNat 64 := ⟨_, rfl⟩
   have HQ1 : Aside0 (r1 = (a.sshiftRight N).toInt) := ⟨by rw [HR1.out, hN0]; unfold doB; rw [HNB.out, decide_eq_false hy0]; rfl⟩
   have HQ2 : Aside0 (r2 = 0) := ⟨by rw [HR2.out]; unfold doB; rw [HNB.out, decide_eq_false hy0]; rfl⟩
   clear HR1 HR2
   have HR1 := HQ1; have HR2 := HQ2
   rw [decide_eq_false hy0] at hc63
   have HN64 : Aside0 (N ≤ 64) := ⟨by omega⟩
   have H0 : Aside0 (Bits O (fun j => decide (j < 0) && (if N + j < 64 then a.getLsbD (N + j) else a.getLsbD 63))) := ⟨HCO.out.congr (fun i _ => by simp [off])⟩
   by_cases hy64 : y < 64
   ·have hyd : decide (y < 64) = true := decide_eq_true hy64
    have eN : y = (N : Int) := by omega
    clear hy64 hy0 hN0 HQ1 HQ2
    subst eN
    go_upto_region 43 with (fail)
    go_loopw [16] (fun v16 wr => ∃ (i : Nat) (D : Array Value), v16 = .int .i64 i ∧ i ≤ 64 ∧ Aside0 (Bits D (fun j => decide (j < i) && (if N + j < 64 then a.getLsbD (N + j) else a.getLsbD 63))) ∧ Aside0 (Blk wr go D) ∧ Aside0 (Blk wr ga A) ∧ Aside0 (Blk wr gb B) ∧ Aside0 (Below w.heap.size w wr)) (fun v16 _ => 64 - (intOf v16).toNat)
    case atStart => exact ⟨0, O, rfl, by decide, H0, HXO, HXA, HXB, HBW⟩
    case round =>
     clear H0 HXO HXA HXB HBW
     obtain ⟨i, D, rfl, hi, HD, HXO, HXA, HXB, HBW⟩ := hrel
     have hn64 := HN64.out
     by_cases hlt : i < 64
     ·have hc2 := HXO.out.cell HD.out hlt
      have hf2 := HXO.out.frozen i
      have hc63 := HXA.out.cell HCA.out (i := 63) (by decide)
      obtain ⟨s, hs⟩ : ∃ s, s = a.getLsbD 63 := ⟨_, rfl⟩
      rw [← hs] at hc63
      obtain ⟨E0, hE0, hbE0, hgE0⟩ := set_bit HXO.out HD.out hlt s
      have hw : wrap64 ((i : Int) + (N : Int)) = ((i + N : Nat) : Int) := by unfold wrap64; omega
      by_cases hN : i + N < 64
      ·have HXA0 := Aside0.mk (HXA.out.grown hgE0 HNE.out.1)
       have hc0 := HXA0.out.cell HCA.out (i := i + N) hN
       have hge : decide ((i : Int) + (N : Int) < 64) = true := decide_eq_true (by omega)
       have hlt2 : (((i + N : Nat) : Int) < 64) = True := eq_true (by omega)
       have hc3 := hbE0.cell hE0 hlt
       have hf3 := hbE0.frozen i
       obtain ⟨E, hE, hbE, hgE⟩ := set_bit hbE0 hE0 hlt (a.getLsbD (i + N))
       have HJ : Aside0 (∀ j, j < 64 → (if j = i then a.getLsbD (i + N) else if j = i then s else (decide (j < i) && (if N + j < 64 then a.getLsbD (N + j) else a.getLsbD 63))) = (decide (j < i + 1) && (if N + j < 64 then a.getLsbD (N + j) else a.getLsbD 63))) := ⟨fun j hj => by
        by_cases e : j = i
        ·subst e; rw [if_pos rfl, if_pos (by omega), Nat.add_comm]; simp
        ·rw [if_neg e, if_neg e, show decide (j < i) = decide (j < i + 1) from decide_eq_decide.mpr (by omega)]⟩
       have HE := Aside0.mk hE; have HBE := Aside0.mk hbE; have HG0 := Aside0.mk hgE0; have HGD := Aside0.mk hgE
       have HBW0 := Aside0.mk (HBW.out.grown hgE0 HBW.out.size (fun k e => by cases e; exact HGE.out))
       clear hE hbE hgE hE0 hbE0 hgE0 hs
       go_wp2
       refine ⟨⟨i + 1, E, by simp, by omega, ⟨HE.out.congr HJ.out⟩, HBE, ⟨HXA0.out.grown HGD.out HNE.out.1⟩, ⟨(HXB.out.grown HG0.out HNE.out.2).grown HGD.out HNE.out.2⟩, ⟨HBW0.out.grown HGD.out HBW0.out.size (fun k e => by cases e; exact HGE.out)⟩⟩, ?_⟩
       show 64 - ((i : Int) + 1).toNat < 64 - (i : Int).toNat
       omega
      ·have hge : decide ((i : Int) + (N : Int) < 64) = false := decide_eq_false (by omega)
       have HJ : Aside0 (∀ j, j < 64 → (if j = i then s else (decide (j < i) && (if N + j < 64 then a.getLsbD (N + j) else a.getLsbD 63))) = (decide (j < i + 1) && (if N + j < 64 then a.getLsbD (N + j) else a.getLsbD 63))) := ⟨fun j hj => by
        by_cases e : j = i
        ·subst e; rw [if_pos rfl, if_neg (by omega), hs]; simp
        ·rw [if_neg e, show decide (j < i) = decide (j < i + 1) from decide_eq_decide.mpr (by omega)]⟩
       obtain ⟨E, hE⟩ : ∃ E, E = E0 := ⟨_, rfl⟩
       rw [← hE] at hE0 hbE0
       have HE := Aside0.mk hE0; have HBE := Aside0.mk hbE0; have HGD := Aside0.mk hgE0
       clear hE0 hbE0 hgE0 hs hE
       go_wp2
       refine ⟨⟨i + 1, E, by simp, by omega, ⟨HE.out.congr HJ.out⟩, HBE, ⟨HXA.out.grown HGD.out HNE.out.1⟩, ⟨HXB.out.grown HGD.out HNE.out.2⟩, ⟨HBW.out.grown HGD.out HBW.out.size (fun k e => by cases e; exact HGE.out)⟩⟩, ?_⟩
       show 64 - ((i : Int) + 1).toNat < 64 - (i : Int).toNat
       omega
     ·have e : i = 64 := by omega
      subst e
      have HCO : Aside0 (Bits D (fun j => (a.sshiftRight N).getLsbD j)) := ⟨HD.out.congr (fun j hj => by rw [BitVec.getLsbD_sshiftRight, BitVec.msb_eq_getLsbD_last]; simp [hj])⟩
      go_upto_region 67 with (fail)
      apply wp_region_lit
      refine s_load rfl _ rfl rfl HXO.out HCO.out ?_
      go_wp2_with fail
      obtain ⟨z, hz⟩ : ∃ z, z = ((a.sshiftRight N) : BitVec 64).toInt := ⟨_, rfl⟩
      refine (To_calls _ (a.sshiftRight N) _ HCO.out).mono ?_
      rintro e w9 ⟨rfl, hB9⟩
      rw [← hz]
      have HZ := Aside0.mk hz
      clear hz
      go_wp2
      go_ret2
      exact ⟨by rw [HR1.out, HR2.out, HZ.out]; rfl, below_step HBW.out hB9⟩
   ·have hyd : decide (y < 64) = false := decide_eq_false hy64
    have eN : N = 64 := by omega
    clear hy64 hy0 hN0 HQ1 HQ2
    subst eN
    go_upto_region 43 with (fail)
    go_loopw [16] (fun v16 wr => ∃ (i : Nat) (D : Array Value), v16 = .int .i64 i ∧ i ≤ 64 ∧ Aside0 (Bits D (fun j => decide (j < i) && (if 64 + j < 64 then a.getLsbD (64 + j) else a.getLsbD 63))) ∧ Aside0 (Blk wr go D) ∧ Aside0 (Blk wr ga A) ∧ Aside0 (Blk wr gb B) ∧ Aside0 (Below w.heap.size w wr)) (fun v16 _ => 64 - (intOf v16).toNat)
    case atStart => exact ⟨0, O, rfl, by decide, H0, HXO, HXA, HXB, HBW⟩
    case round =>
     clear H0 HXO HXA HXB HBW
     obtain ⟨i, D, rfl, hi, HD, HXO, HXA, HXB, HBW⟩ := hrel
     have hn64 := HN64.out
     by_cases hlt : i < 64
     ·have hc2 := HXO.out.cell HD.out hlt
      have hf2 := HXO.out.frozen i
      have hc63 := HXA.out.cell HCA.out (i := 63) (by decide)
      obtain ⟨s, hs⟩ : ∃ s, s = a.getLsbD 63 := ⟨_, rfl⟩
      rw [← hs] at hc63
      obtain ⟨E0, hE0, hbE0, hgE0⟩ := set_bit HXO.out HD.out hlt s
      have hw : wrap64 ((i : Int) + (64 : Int)) = ((i + 64 : Nat) : Int) := by unfold wrap64; omega
      by_cases hN : i + 64 < 64
      ·exact absurd hlt (by omega)
      ·have hge : decide ((i : Int) + (64 : Int) < 64) = false := decide_eq_false (by omega)
       have HJ : Aside0 (∀ j, j < 64 → (if j = i then s else (decide (j < i) && (if 64 + j < 64 then a.getLsbD (64 + j) else a.getLsbD 63))) = (decide (j < i + 1) && (if 64 + j < 64 then a.getLsbD (64 + j) else a.getLsbD 63))) := ⟨fun j hj => by
        by_cases e : j = i
        ·subst e; rw [if_pos rfl, if_neg (by omega), hs]; simp
        ·rw [if_neg e, show decide (j < i) = decide (j < i + 1) from decide_eq_decide.mpr (by omega)]⟩
       obtain ⟨E, hE⟩ : ∃ E, E = E0 := ⟨_, rfl⟩
       rw [← hE] at hE0 hbE0
       have HE := Aside0.mk hE0; have HBE := Aside0.mk hbE0; have HGD := Aside0.mk hgE0
       clear hE0 hbE0 hgE0 hs hE
       go_wp2
       refine ⟨⟨i + 1, E, by simp, by omega, ⟨HE.out.congr HJ.out⟩, HBE, ⟨HXA.out.grown HGD.out HNE.out.1⟩, ⟨HXB.out.grown HGD.out HNE.out.2⟩, ⟨HBW.out.grown HGD.out HBW.out.size (fun k e => by cases e; exact HGE.out)⟩⟩, ?_⟩
       show 64 - ((i : Int) + 1).toNat < 64 - (i : Int).toNat
       omega
     ·have e : i = 64 := by omega
      subst e
      have HCO : Aside0 (Bits D (fun j => (a.sshiftRight 64).getLsbD j)) := ⟨HD.out.congr (fun j hj => by rw [BitVec.getLsbD_sshiftRight, BitVec.msb_eq_getLsbD_last]; simp [hj])⟩
      go_upto_region 67 with (fail)
      apply wp_region_lit
      refine s_load rfl _ rfl rfl HXO.out HCO.out ?_
      go_wp2_with fail
      obtain ⟨z, hz⟩ : ∃ z, z = ((a.sshiftRight 64) : BitVec 64).toInt := ⟨_, rfl⟩
      refine (To_calls _ (a.sshiftRight 64) _ HCO.out).mono ?_
      rintro e w9 ⟨rfl, hB9⟩
      rw [← hz]
      have HZ := Aside0.mk hz
      clear hz
      go_wp2
      go_ret2
      exact ⟨by rw [HR1.out, HR2.out, HZ.out]; rfl, below_step HBW.out hB9⟩
 by_cases h11 : op = 11
 ·subst h11
  have HR1 : Aside0 (r1 = (doB 11 a b y).1) := ⟨by rw [HR.out]⟩
  have HR2 : Aside0 (r2 = (doB 11 a b y).2) := ⟨by rw [HR.out]⟩
  clear HR
  go_upto_region 52 with (fail)
  apply wp_region_lit
  refine s_load rfl _ rfl rfl HXA.out HCA.out ?_
  refine s_load rfl _ rfl rfl HXB.out HCB.out ?_
  have heq := eq_run A B (a) (b) HCA.out HCB.out
  obtain ⟨c, hc⟩ : ∃ c, c = (a == b) := ⟨_, rfl⟩
  rw [← hc] at heq
  have HCC := Aside0.mk hc
  clear hc
  go_wp2_with fail
  refine (truth_calls c _).mono ?_
  rintro e w6 ⟨rfl, hB6⟩
  go_wp2
  go_ret2
  exact ⟨by rw [HR1.out, HR2.out, HCC.out]; rfl, below_step HBW.out hB6⟩
 by_cases h12 : op = 12
 ·subst h12
  have HR1 : Aside0 (r1 = (doB 12 a b y).1) := ⟨by rw [HR.out]⟩
  have HR2 : Aside0 (r2 = (doB 12 a b y).2) := ⟨by rw [HR.out]⟩
  clear HR
  go_upto_region 54 with (fail)
  apply wp_region_lit
  refine s_load rfl _ rfl rfl HXA.out HCA.out ?_
  refine s_load rfl _ rfl rfl HXB.out HCB.out ?_
  have heq := eq_run A B (a) (b) HCA.out HCB.out
  obtain ⟨c, hc⟩ : ∃ c, c = (a == b) := ⟨_, rfl⟩
  rw [← hc] at heq
  have HCC := Aside0.mk hc
  clear hc
  go_wp2_with fail
  refine (truth_calls (!c) _).mono ?_
  rintro e w6 ⟨rfl, hB6⟩
  go_wp2
  go_ret2
  exact ⟨by rw [HR1.out, HR2.out, HCC.out]; rfl, below_step HBW.out hB6⟩
 by_cases h13 : op = 13
 ·subst h13
  have HR1 : Aside0 (r1 = (doB 13 a b y).1) := ⟨by rw [HR.out]⟩
  have HR2 : Aside0 (r2 = (doB 13 a b y).2) := ⟨by rw [HR.out]⟩
  clear HR
  go_upto_region 56 with (fail)
  apply wp_region_lit
  refine s_load rfl _ rfl rfl HXA.out HCA.out ?_
  refine s_load rfl _ rfl rfl HXB.out HCB.out ?_
  go_wp2_with fail
  refine (less_calls A B a b _ HCA.out HCB.out).mono ?_
  rintro e w5 ⟨rfl, hB5⟩
  obtain ⟨c, hc⟩ : ∃ c, c = decide (BitVec.toInt a < BitVec.toInt b) := ⟨_, rfl⟩
  rw [← hc]
  have HCC := Aside0.mk hc
  clear hc
  go_wp2_with fail
  refine (truth_calls c _).mono ?_
  rintro e w6 ⟨rfl, hB6⟩
  go_wp2
  go_ret2
  exact ⟨by rw [HR1.out, HR2.out, HCC.out]; rfl, below_step (below_step HBW.out hB5) hB6⟩
 by_cases h14 : op = 14
 ·subst h14
  have HR1 : Aside0 (r1 = (doB 14 a b y).1) := ⟨by rw [HR.out]⟩
  have HR2 : Aside0 (r2 = (doB 14 a b y).2) := ⟨by rw [HR.out]⟩
  clear HR
  go_upto_region 58 with (fail)
  apply wp_region_lit
  refine s_load rfl _ rfl rfl HXB.out HCB.out ?_
  refine s_load rfl _ rfl rfl HXA.out HCA.out ?_
  go_wp2_with fail
  refine (less_calls B A b a _ HCB.out HCA.out).mono ?_
  rintro e w5 ⟨rfl, hB5⟩
  obtain ⟨c, hc⟩ : ∃ c, c = decide (BitVec.toInt b < BitVec.toInt a) := ⟨_, rfl⟩
  rw [← hc]
  have HCC := Aside0.mk hc
  clear hc
  go_wp2_with fail
  refine (truth_calls (!c) _).mono ?_
  rintro e w6 ⟨rfl, hB6⟩
  go_wp2
  go_ret2
  exact ⟨by rw [HR1.out, HR2.out, HCC.out]; rfl, below_step (below_step HBW.out hB5) hB6⟩
 by_cases h15 : op = 15
 ·subst h15
  have HR1 : Aside0 (r1 = (doB 15 a b y).1) := ⟨by rw [HR.out]⟩
  have HR2 : Aside0 (r2 = (doB 15 a b y).2) := ⟨by rw [HR.out]⟩
  clear HR
  go_upto_region 60 with (fail)
  apply wp_region_lit
  refine s_load rfl _ rfl rfl HXB.out HCB.out ?_
  refine s_load rfl _ rfl rfl HXA.out HCA.out ?_
  go_wp2_with fail
  refine (less_calls B A b a _ HCB.out HCA.out).mono ?_
  rintro e w5 ⟨rfl, hB5⟩
  obtain ⟨c, hc⟩ : ∃ c, c = decide (BitVec.toInt b < BitVec.toInt a) := ⟨_, rfl⟩
  rw [← hc]
  have HCC := Aside0.mk hc
  clear hc
  go_wp2_with fail
  refine (truth_calls c _).mono ?_
  rintro e w6 ⟨rfl, hB6⟩
  go_wp2
  go_ret2
  exact ⟨by rw [HR1.out, HR2.out, HCC.out]; rfl, below_step (below_step HBW.out hB5) hB6⟩
 by_cases h16 : op = 16
 ·subst h16
  have HR1 : Aside0 (r1 = (doB 16 a b y).1) := ⟨by rw [HR.out]⟩
  have HR2 : Aside0 (r2 = (doB 16 a b y).2) := ⟨by rw [HR.out]⟩
  clear HR
  go_upto_region 62 with (fail)
  apply wp_region_lit
  refine s_load rfl _ rfl rfl HXA.out HCA.out ?_
  refine s_load rfl _ rfl rfl HXB.out HCB.out ?_
  go_wp2_with fail
  refine (less_calls A B a b _ HCA.out HCB.out).mono ?_
  rintro e w5 ⟨rfl, hB5⟩
  obtain ⟨c, hc⟩ : ∃ c, c = decide (BitVec.toInt a < BitVec.toInt b) := ⟨_, rfl⟩
  rw [← hc]
  have HCC := Aside0.mk hc
  clear hc
  go_wp2_with fail
  refine (truth_calls (!c) _).mono ?_
  rintro e w6 ⟨rfl, hB6⟩
  go_wp2
  go_ret2
  exact ⟨by rw [HR1.out, HR2.out, HCC.out]; rfl, below_step (below_step HBW.out hB5) hB6⟩
 by_cases h17 : op = 17
 ·subst h17
  have HR1 : Aside0 (r1 = (doB 17 a b y).1) := ⟨by rw [HR.out]⟩
  have HR2 : Aside0 (r2 = (doB 17 a b y).2) := ⟨by rw [HR.out]⟩
  clear HR
  go_upto_region 64 with (fail)
  apply wp_region_lit
  refine s_load rfl _ rfl rfl HXA.out HCA.out ?_
  go_wp2_with fail
  refine (neg_calls A a _ HCA.out).mono ?_
  rintro e w5 ⟨D, rfl, hD, hB5⟩
  have HXO := Aside0.mk (HXO.out.below hB5); have HXA := Aside0.mk (HXA.out.below hB5); have HXB := Aside0.mk (HXB.out.below hB5); have HBW := Aside0.mk (below_step HBW.out hB5)
  have HD := Aside0.mk hD
  clear hB5 hD
  go_upto_region 67 with (refine s_store rfl _ _ rfl rfl rfl HXO.out HCO.out HD.out ?_; intro w8 hb8 hg8; have HXA := Aside0.mk (HXA.out.grown hg8 HNE.out.1); have HXB := Aside0.mk (HXB.out.grown hg8 HNE.out.2); have HBW := Aside0.mk (HBW.out.grown hg8 HBW.out.size (fun k e => by cases e; exact HGE.out)); have HXO := Aside0.mk hb8; have HCO := Aside0.mk HD.out; clear hb8 hg8)
  go_upto_region 67 with (fail)
  apply wp_region_lit
  refine s_load rfl _ rfl rfl HXO.out HCO.out ?_
  go_wp2_with fail
  obtain ⟨z, hz⟩ : ∃ z, z = ((-a) : BitVec 64).toInt := ⟨_, rfl⟩
  refine (To_calls _ (-a) _ HCO.out).mono ?_
  rintro e w9 ⟨rfl, hB9⟩
  rw [← hz]
  have HZ := Aside0.mk hz
  clear hz
  go_wp2
  go_ret2
  exact ⟨by rw [HR1.out, HR2.out, HZ.out]; rfl, below_step HBW.out hB9⟩
 by_cases h18 : op = 18
 ·subst h18
  have HR1 : Aside0 (r1 = (doB 18 a b y).1) := ⟨by rw [HR.out]⟩
  have HR2 : Aside0 (r2 = (doB 18 a b y).2) := ⟨by rw [HR.out]⟩
  clear HR
  go_upto_region 66 with (fail)
  apply wp_region_lit
  refine s_load rfl _ rfl rfl HXA.out HCA.out ?_
  refine s_build rfl rfl ?_
  intro Z9 hZ9
  have HZ9 := Aside0.mk (hZ9.congr (g := fun j => (0#64).getLsbD j) (fun i hi => by simp [off]))
  have heq := eq_run A Z9 (a) (0#64) HCA.out HZ9.out
  obtain ⟨c, hc⟩ : ∃ c, c = (a == 0#64) := ⟨_, rfl⟩
  rw [← hc] at heq
  have HCC := Aside0.mk hc
  clear hc
  go_wp2_with fail
  refine (truth_calls c _).mono ?_
  rintro e w6 ⟨rfl, hB6⟩
  go_wp2
  go_ret2
  exact ⟨by rw [HR1.out, HR2.out, HCC.out]; rfl, below_step HBW.out hB6⟩
 have HR1 : Aside0 (r1 = 0) := ⟨by have := HR.out; unfold doB at this; rw [if_neg h1, if_neg h2, if_neg h3, if_neg h4, if_neg h5, if_neg h6, if_neg h7, if_neg h8, if_neg h9, if_neg h10, if_neg h11, if_neg h12, if_neg h13, if_neg h14, if_neg h15, if_neg h16, if_neg h17, if_neg h18] at this; exact (Prod.mk.inj this).1.symm⟩
 have HR2 : Aside0 (r2 = 9) := ⟨by have := HR.out; unfold doB at this; rw [if_neg h1, if_neg h2, if_neg h3, if_neg h4, if_neg h5, if_neg h6, if_neg h7, if_neg h8, if_neg h9, if_neg h10, if_neg h11, if_neg h12, if_neg h13, if_neg h14, if_neg h15, if_neg h16, if_neg h17, if_neg h18] at this; exact (Prod.mk.inj this).2.symm⟩
 have e1 : (op == 1) = false := beq_eq_false_iff_ne.mpr h1
 have e2 : (op == 2) = false := beq_eq_false_iff_ne.mpr h2
 have e3 : (op == 3) = false := beq_eq_false_iff_ne.mpr h3
 have e4 : (op == 4) = false := beq_eq_false_iff_ne.mpr h4
 have e5 : (op == 5) = false := beq_eq_false_iff_ne.mpr h5
 have e6 : (op == 6) = false := beq_eq_false_iff_ne.mpr h6
 have e7 : (op == 7) = false := beq_eq_false_iff_ne.mpr h7
 have e8 : (op == 8) = false := beq_eq_false_iff_ne.mpr h8
 have e9 : (op == 9) = false := beq_eq_false_iff_ne.mpr h9
 have e10 : (op == 10) = false := beq_eq_false_iff_ne.mpr h10
 have e11 : (op == 11) = false := beq_eq_false_iff_ne.mpr h11
 have e12 : (op == 12) = false := beq_eq_false_iff_ne.mpr h12
 have e13 : (op == 13) = false := beq_eq_false_iff_ne.mpr h13
 have e14 : (op == 14) = false := beq_eq_false_iff_ne.mpr h14
 have e15 : (op == 15) = false := beq_eq_false_iff_ne.mpr h15
 have e16 : (op == 16) = false := beq_eq_false_iff_ne.mpr h16
 have e17 : (op == 17) = false := beq_eq_false_iff_ne.mpr h17
 have e18 : (op == 18) = false := beq_eq_false_iff_ne.mpr h18
 go_wp2
 go_ret2
 exact ⟨by rw [HR1.out, HR2.out]; rfl, HBW.out⟩
end Go.Proofs.YtcmppjonpmgncaaDoor.Q
namespace Go.Proofs.YtcmppjonpmgncaaDoor.Q
open Go.RowKit Go.Proofs.YtcmppjonpmgncaaDoorW.PrintWords Go.Proofs.YtcmppjonpmgncaaDoorW.PrintLast Go.Proofs.YtcmppjonpmgncaaDoorW.PrintMore
attribute [local go_sem] max2_int min2_int max_two min_two max_three min_three max_four min_four   -- for this text's walks alone
set_option linter.unusedVariables false
set_option linter.unusedSimpArgs false
/-! ### truantlaw01_NumExact: function 3 -/
def truantlaw01_NumExact.f (k : Nat) (a0 : Int) (a1 : Int) (a2 : Int) : Option (Bool) := (truantlaw01_awake.f k).bind fun t193 => (if t193 = true then ((num_Do.f k a0 a1 a2).bind fun bt194 => ((truantref01_Do.f a0 a1 a2).bind fun bt196 => (if bt194.1 = bt196.1 then (if bt194.2 = bt196.2 then ((num_IsBinary.f a0).bind fun t198 => (if a0 ≥ 1 then (if (t198 == (decide (a0 ≤ 16))) = true then ((num_IsUnary.f a0).bind fun t199 => (if a0 = 17 then (some (t199 == true)) else (some (t199 == (a0 == 18))))) else (none)) else (if (t198 == false) = true then ((num_IsUnary.f a0).bind fun t200 => (if a0 = 17 then (some (t200 == true)) else (some (t200 == (a0 == 18))))) else (none)))) else (none)) else (none)))) else (none))
theorem truantlaw01_NumExact.mono : ∀ a0 a1 a2 k, LeO (truantlaw01_NumExact.f k a0 a1 a2) (truantlaw01_NumExact.f (k + 1) a0 a1 a2) := by
 intro a0 a1 a2 k
 unfold truantlaw01_NumExact.f
 repeat' first
   | (with_reducible exact num_Do.mono _ _ _ _)
   | (with_reducible exact truantlaw01_awake.mono _)
   | (with_reducible exact LeO.refl _)
   | (with_reducible exact LeO.none _)
   | (with_reducible refine LeO.ite ?_ ?_)
   | (with_reducible refine LeO.bind ?_ (fun _ => ?_))
   | exact num_Do.mono _ _ _ _
   | exact truantlaw01_awake.mono _
   | exact LeO.none _
   | refine LeO.ite ?_ ?_
   | refine LeO.bind ?_ (fun _ => ?_)
set_option maxHeartbeats 8000000 in
set_option maxRecDepth 100000 in
theorem truantlaw01_NumExact.calls (k : Nat) (a0 : Int) (a1 : Int) (a2 : Int) (r : Bool) (w : World) (h : truantlaw01_NumExact.f k a0 a1 a2 = some r) (hG : Glob w := by first | assumption | (refine Glob.below (by assumption) ?_; repeat (first | with_reducible exact (Aside0.out (by assumption)) | (refine below_set ?_ (Aside0.out (by assumption))) | (with_reducible first | apply below_alloc | apply pw_below_drewN | apply below_drew1) | exact (Aside0.out (by assumption))))) :
  Calls Tryd.prog 3 #[.int .i64 a0, .int .i64 a1, .int .i64 a2] w fun e w' => e = .returned (.bool r) ∧ Below w.heap.size w w' := by
 have HB := Aside0.mk (Below.refl w.heap.size w)
 have H : ((truantlaw01_awake.f k).bind fun t193 => (if t193 = true then ((num_Do.f k a0 a1 a2).bind fun bt194 => ((truantref01_Do.f a0 a1 a2).bind fun bt196 => (if bt194.1 = bt196.1 then (if bt194.2 = bt196.2 then ((num_IsBinary.f a0).bind fun t198 => (if a0 ≥ 1 then (if (t198 == (decide (a0 ≤ 16))) = true then ((num_IsUnary.f a0).bind fun t199 => (if a0 = 17 then (some (t199 == true)) else (some (t199 == (a0 == 18))))) else (none)) else (if (t198 == false) = true then ((num_IsUnary.f a0).bind fun t200 => (if a0 = 17 then (some (t200 == true)) else (some (t200 == (a0 == 18))))) else (none)))) else (none)) else (none)))) else (none))) = some r := h
 clear h
 replace H := Option.bind_eq_some_iff.mp H
 obtain ⟨t193, A40, H⟩ := H
 replace H : (if t193 = true then ((num_Do.f k a0 a1 a2).bind fun bt194 => ((truantref01_Do.f a0 a1 a2).bind fun bt196 => (if bt194.1 = bt196.1 then (if bt194.2 = bt196.2 then ((num_IsBinary.f a0).bind fun t198 => (if a0 ≥ 1 then (if (t198 == (decide (a0 ≤ 16))) = true then ((num_IsUnary.f a0).bind fun t199 => (if a0 = 17 then (some (t199 == true)) else (some (t199 == (a0 == 18))))) else (none)) else (if (t198 == false) = true then ((num_IsUnary.f a0).bind fun t200 => (if a0 = 17 then (some (t200 == true)) else (some (t200 == (a0 == 18))))) else (none)))) else (none)) else (none)))) else (none)) = some r := H
 have A4 := Aside0.mk A40
 clear A40
 by_cases c5 : t193 = true
 ·subst c5
  have H1 : ((num_Do.f k a0 a1 a2).bind fun bt194 => ((truantref01_Do.f a0 a1 a2).bind fun bt196 => (if bt194.1 = bt196.1 then (if bt194.2 = bt196.2 then ((num_IsBinary.f a0).bind fun t198 => (if a0 ≥ 1 then (if (t198 == (decide (a0 ≤ 16))) = true then ((num_IsUnary.f a0).bind fun t199 => (if a0 = 17 then (some (t199 == true)) else (some (t199 == (a0 == 18))))) else (none)) else (if (t198 == false) = true then ((num_IsUnary.f a0).bind fun t200 => (if a0 = 17 then (some (t200 == true)) else (some (t200 == (a0 == 18))))) else (none)))) else (none)) else (none)))) = some r := by rw [if_pos rfl] at H; exact H
  clear H
  have H := H1
  clear H1
  replace H := Option.bind_eq_some_iff.mp H
  obtain ⟨⟨t194, t195⟩, A60, H⟩ := H
  replace H : ((truantref01_Do.f a0 a1 a2).bind fun bt196 => (if t194 = bt196.1 then (if t195 = bt196.2 then ((num_IsBinary.f a0).bind fun t198 => (if a0 ≥ 1 then (if (t198 == (decide (a0 ≤ 16))) = true then ((num_IsUnary.f a0).bind fun t199 => (if a0 = 17 then (some (t199 == true)) else (some (t199 == (a0 == 18))))) else (none)) else (if (t198 == false) = true then ((num_IsUnary.f a0).bind fun t200 => (if a0 = 17 then (some (t200 == true)) else (some (t200 == (a0 == 18))))) else (none)))) else (none)) else (none))) = some r := H
  have A6 := Aside0.mk A60
  clear A60
  replace H := Option.bind_eq_some_iff.mp H
  obtain ⟨⟨t196, t197⟩, A70, H⟩ := H
  replace H : (if t194 = t196 then (if t195 = t197 then ((num_IsBinary.f a0).bind fun t198 => (if a0 ≥ 1 then (if (t198 == (decide (a0 ≤ 16))) = true then ((num_IsUnary.f a0).bind fun t199 => (if a0 = 17 then (some (t199 == true)) else (some (t199 == (a0 == 18))))) else (none)) else (if (t198 == false) = true then ((num_IsUnary.f a0).bind fun t200 => (if a0 = 17 then (some (t200 == true)) else (some (t200 == (a0 == 18))))) else (none)))) else (none)) else (none)) = some r := H
  have A7 := Aside0.mk A70
  clear A70
  by_cases c8 : t194 = t196
  ·rw [if_pos c8] at H
   have c8b0 : (t194 == t196) = true := beq_iff_eq.mpr c8
   have c8b1 : (t194 != t196) = false := bne_eq_false_iff_eq.mpr c8
   clear c8
   by_cases c9 : t195 = t197
   ·rw [if_pos c9] at H
    have c9b0 : (t195 == t197) = true := beq_iff_eq.mpr c9
    have c9b1 : (t195 != t197) = false := bne_eq_false_iff_eq.mpr c9
    clear c9
    replace H := Option.bind_eq_some_iff.mp H
    obtain ⟨t198, A100, H⟩ := H
    replace H : (if a0 ≥ 1 then (if (t198 == (decide (a0 ≤ 16))) = true then ((num_IsUnary.f a0).bind fun t199 => (if a0 = 17 then (some (t199 == true)) else (some (t199 == (a0 == 18))))) else (none)) else (if (t198 == false) = true then ((num_IsUnary.f a0).bind fun t200 => (if a0 = 17 then (some (t200 == true)) else (some (t200 == (a0 == 18))))) else (none))) = some r := H
    have A10 := Aside0.mk A100
    clear A100
    by_cases c11 : a0 ≥ 1
    ·rw [if_pos c11] at H
     have c11b0 : decide (1 ≤ a0) = true := decide_eq_true c11
     clear c11
     by_cases c12 : (t198 == (decide (a0 ≤ 16))) = true
     ·rw [if_pos c12] at H
      have c12b0 : (t198 == (decide (a0 ≤ 16))) = true := c12
      (try (have c12b1 : decide (t198 = (decide (a0 ≤ 16))) = true := by simpa using c12))
      (try (have c12b2 : (t198 == (decide (a0 ≤ 16))) = true := by simpa using c12))
      clear c12
      replace H := Option.bind_eq_some_iff.mp H
      obtain ⟨t199, A130, H⟩ := H
      replace H : (if a0 = 17 then (some (t199 == true)) else (some (t199 == (a0 == 18)))) = some r := H
      have A13 := Aside0.mk A130
      clear A130
      by_cases c14 : a0 = 17
      ·rw [if_pos c14] at H
       have c14b0 : (a0 == 17) = true := beq_iff_eq.mpr c14
       have c14b1 : (a0 != 17) = false := bne_eq_false_iff_eq.mpr c14
       clear c14
       obtain rfl := Option.some.inj H
       go_enter Tryd.func3, Tryd.ntmps3
       go_wp2_with (first | ((with_reducible refine gate_callee (f := 10) rfl ?_); refine goesL_ (some 11) rfl rfl Tryd.func10 (by kernel_rfl) rfl #[] rfl (by (try simp only [List.map_toArray, List.map_cons, List.map_nil]); first | done | rfl | (simp only [List.length_drop, List.length_take]; rfl)) ?_; (with_reducible refine (truantlaw01_awake.calls k  true _ A4.out).mono ?_); rintro e w15 ⟨rfl, hb⟩; refine ⟨_, rfl, ?_⟩; have n0_ := Aside0.mk (below_step (by repeat (first | (with_reducible first | exact HB.out | apply below_alloc | apply pw_below_drewN | apply below_drew1) | exact HB.out)) hb); clear HB; have HB := n0_; clear n0_; (try clear hb); (try clear hb2); (try clear hk); (try clear hi)) | ((with_reducible refine gate_callee (f := 11) rfl ?_); refine goesL_ (some 17) rfl rfl Tryd.func11 (by kernel_rfl) rfl #[.int .i64 a0, .int .i64 a1, .int .i64 a2] rfl (by (try simp only [List.map_toArray, List.map_cons, List.map_nil]); first | done | rfl | (simp only [List.length_drop, List.length_take]; rfl)) ?_; (with_reducible refine (num_Do.calls k a0 a1 a2 t194 t195 _ A6.out).mono ?_); rintro e w16 ⟨rfl, hb⟩; refine ⟨_, rfl, ?_⟩; have n0_ := Aside0.mk (below_step (by repeat (first | (with_reducible first | exact HB.out | apply below_alloc | apply pw_below_drewN | apply below_drew1) | exact HB.out)) hb); clear HB; have HB := n0_; clear n0_; (try clear hb); (try clear hb2); (try clear hk); (try clear hi)) | ((with_reducible refine gate_callee (f := 12) rfl ?_); refine goesL_ (some 24) rfl rfl Tryd.func12 (by kernel_rfl) rfl #[.int .i64 a0, .int .i64 a1, .int .i64 a2] rfl (by (try simp only [List.map_toArray, List.map_cons, List.map_nil]); first | done | rfl | (simp only [List.length_drop, List.length_take]; rfl)) ?_; (with_reducible refine (truantref01_Do.calls a0 a1 a2 t196 t197 _ A7.out).mono ?_); rintro e w17 ⟨rfl, hb⟩; refine ⟨_, rfl, ?_⟩; have n0_ := Aside0.mk (below_step (by repeat (first | (with_reducible first | exact HB.out | apply below_alloc | apply pw_below_drewN | apply below_drew1) | exact HB.out)) hb); clear HB; have HB := n0_; clear n0_; (try clear hb); (try clear hb2); (try clear hk); (try clear hi)) | (go_at_call 13; (with_reducible refine (num_IsBinary.calls a0 t198 _ A10.out).mono ?_); rintro e w' ⟨rfl, ⟨nd, rfl⟩⟩) | (go_at_call 14; (with_reducible refine (num_IsUnary.calls a0 t199 _ A13.out).mono ?_); rintro e w' ⟨rfl, ⟨nd, rfl⟩⟩))
       go_ret
       exact ⟨by first | rfl | (simp [errW_none, errW_some] <;> rfl) | (simp [*, errW_none, errW_some] <;> rfl), by repeat (first | (with_reducible first | exact HB.out | apply below_alloc | apply pw_below_drewN | apply below_drew1) | exact HB.out)⟩
      ·rw [if_neg c14] at H
       have c14b0 : (a0 == 17) = false := beq_eq_false_iff_ne.mpr c14
       have c14b1 : (a0 != 17) = true := bne_iff_ne.mpr c14
       obtain rfl := Option.some.inj H
       go_enter Tryd.func3, Tryd.ntmps3
       go_wp2_with (first | ((with_reducible refine gate_callee (f := 10) rfl ?_); refine goesL_ (some 11) rfl rfl Tryd.func10 (by kernel_rfl) rfl #[] rfl (by (try simp only [List.map_toArray, List.map_cons, List.map_nil]); first | done | rfl | (simp only [List.length_drop, List.length_take]; rfl)) ?_; (with_reducible refine (truantlaw01_awake.calls k  true _ A4.out).mono ?_); rintro e w18 ⟨rfl, hb⟩; refine ⟨_, rfl, ?_⟩; have n0_ := Aside0.mk (below_step (by repeat (first | (with_reducible first | exact HB.out | apply below_alloc | apply pw_below_drewN | apply below_drew1) | exact HB.out)) hb); clear HB; have HB := n0_; clear n0_; (try clear hb); (try clear hb2); (try clear hk); (try clear hi)) | ((with_reducible refine gate_callee (f := 11) rfl ?_); refine goesL_ (some 17) rfl rfl Tryd.func11 (by kernel_rfl) rfl #[.int .i64 a0, .int .i64 a1, .int .i64 a2] rfl (by (try simp only [List.map_toArray, List.map_cons, List.map_nil]); first | done | rfl | (simp only [List.length_drop, List.length_take]; rfl)) ?_; (with_reducible refine (num_Do.calls k a0 a1 a2 t194 t195 _ A6.out).mono ?_); rintro e w19 ⟨rfl, hb⟩; refine ⟨_, rfl, ?_⟩; have n0_ := Aside0.mk (below_step (by repeat (first | (with_reducible first | exact HB.out | apply below_alloc | apply pw_below_drewN | apply below_drew1) | exact HB.out)) hb); clear HB; have HB := n0_; clear n0_; (try clear hb); (try clear hb2); (try clear hk); (try clear hi)) | ((with_reducible refine gate_callee (f := 12) rfl ?_); refine goesL_ (some 24) rfl rfl Tryd.func12 (by kernel_rfl) rfl #[.int .i64 a0, .int .i64 a1, .int .i64 a2] rfl (by (try simp only [List.map_toArray, List.map_cons, List.map_nil]); first | done | rfl | (simp only [List.length_drop, List.length_take]; rfl)) ?_; (with_reducible refine (truantref01_Do.calls a0 a1 a2 t196 t197 _ A7.out).mono ?_); rintro e w20 ⟨rfl, hb⟩; refine ⟨_, rfl, ?_⟩; have n0_ := Aside0.mk (below_step (by repeat (first | (with_reducible first | exact HB.out | apply below_alloc | apply pw_below_drewN | apply below_drew1) | exact HB.out)) hb); clear HB; have HB := n0_; clear n0_; (try clear hb); (try clear hb2); (try clear hk); (try clear hi)) | (go_at_call 13; (with_reducible refine (num_IsBinary.calls a0 t198 _ A10.out).mono ?_); rintro e w' ⟨rfl, ⟨nd, rfl⟩⟩) | (go_at_call 14; (with_reducible refine (num_IsUnary.calls a0 t199 _ A13.out).mono ?_); rintro e w' ⟨rfl, ⟨nd, rfl⟩⟩))
       go_ret
       exact ⟨by first | rfl | (simp [errW_none, errW_some] <;> rfl) | (simp [*, errW_none, errW_some] <;> rfl), by repeat (first | (with_reducible first | exact HB.out | apply below_alloc | apply pw_below_drewN | apply below_drew1) | exact HB.out)⟩
     ·rw [if_neg c12] at H
      exact absurd H (by simp)
    ·rw [if_neg c11] at H
     have c11b0 : decide (1 ≤ a0) = false := decide_eq_false c11
     clear c11
     by_cases c21 : (t198 == false) = true
     ·rw [if_pos c21] at H
      have c21b0 : (t198 == false) = true := c21
      (try (have c21b1 : decide (t198 = false) = true := by simpa using c21))
      (try (have c21b2 : (t198 == false) = true := by simpa using c21))
      clear c21
      replace H := Option.bind_eq_some_iff.mp H
      obtain ⟨t200, A220, H⟩ := H
      replace H : (if a0 = 17 then (some (t200 == true)) else (some (t200 == (a0 == 18)))) = some r := H
      have A22 := Aside0.mk A220
      clear A220
      by_cases c23 : a0 = 17
      ·rw [if_pos c23] at H
       have c23b0 : (a0 == 17) = true := beq_iff_eq.mpr c23
       have c23b1 : (a0 != 17) = false := bne_eq_false_iff_eq.mpr c23
       clear c23
       obtain rfl := Option.some.inj H
       go_enter Tryd.func3, Tryd.ntmps3
       go_wp2_with (first | ((with_reducible refine gate_callee (f := 10) rfl ?_); refine goesL_ (some 11) rfl rfl Tryd.func10 (by kernel_rfl) rfl #[] rfl (by (try simp only [List.map_toArray, List.map_cons, List.map_nil]); first | done | rfl | (simp only [List.length_drop, List.length_take]; rfl)) ?_; (with_reducible refine (truantlaw01_awake.calls k  true _ A4.out).mono ?_); rintro e w24 ⟨rfl, hb⟩; refine ⟨_, rfl, ?_⟩; have n0_ := Aside0.mk (below_step (by repeat (first | (with_reducible first | exact HB.out | apply below_alloc | apply pw_below_drewN | apply below_drew1) | exact HB.out)) hb); clear HB; have HB := n0_; clear n0_; (try clear hb); (try clear hb2); (try clear hk); (try clear hi)) | ((with_reducible refine gate_callee (f := 11) rfl ?_); refine goesL_ (some 17) rfl rfl Tryd.func11 (by kernel_rfl) rfl #[.int .i64 a0, .int .i64 a1, .int .i64 a2] rfl (by (try simp only [List.map_toArray, List.map_cons, List.map_nil]); first | done | rfl | (simp only [List.length_drop, List.length_take]; rfl)) ?_; (with_reducible refine (num_Do.calls k a0 a1 a2 t194 t195 _ A6.out).mono ?_); rintro e w25 ⟨rfl, hb⟩; refine ⟨_, rfl, ?_⟩; have n0_ := Aside0.mk (below_step (by repeat (first | (with_reducible first | exact HB.out | apply below_alloc | apply pw_below_drewN | apply below_drew1) | exact HB.out)) hb); clear HB; have HB := n0_; clear n0_; (try clear hb); (try clear hb2); (try clear hk); (try clear hi)) | ((with_reducible refine gate_callee (f := 12) rfl ?_); refine goesL_ (some 24) rfl rfl Tryd.func12 (by kernel_rfl) rfl #[.int .i64 a0, .int .i64 a1, .int .i64 a2] rfl (by (try simp only [List.map_toArray, List.map_cons, List.map_nil]); first | done | rfl | (simp only [List.length_drop, List.length_take]; rfl)) ?_; (with_reducible refine (truantref01_Do.calls a0 a1 a2 t196 t197 _ A7.out).mono ?_); rintro e w26 ⟨rfl, hb⟩; refine ⟨_, rfl, ?_⟩; have n0_ := Aside0.mk (below_step (by repeat (first | (with_reducible first | exact HB.out | apply below_alloc | apply pw_below_drewN | apply below_drew1) | exact HB.out)) hb); clear HB; have HB := n0_; clear n0_; (try clear hb); (try clear hb2); (try clear hk); (try clear hi)) | (go_at_call 13; (with_reducible refine (num_IsBinary.calls a0 t198 _ A10.out).mono ?_); rintro e w' ⟨rfl, ⟨nd, rfl⟩⟩) | (go_at_call 14; (with_reducible refine (num_IsUnary.calls a0 t200 _ A22.out).mono ?_); rintro e w' ⟨rfl, ⟨nd, rfl⟩⟩))
       go_ret
       exact ⟨by first | rfl | (simp [errW_none, errW_some] <;> rfl) | (simp [*, errW_none, errW_some] <;> rfl), by repeat (first | (with_reducible first | exact HB.out | apply below_alloc | apply pw_below_drewN | apply below_drew1) | exact HB.out)⟩
      ·rw [if_neg c23] at H
       have c23b0 : (a0 == 17) = false := beq_eq_false_iff_ne.mpr c23
       have c23b1 : (a0 != 17) = true := bne_iff_ne.mpr c23
       obtain rfl := Option.some.inj H
       go_enter Tryd.func3, Tryd.ntmps3
       go_wp2_with (first | ((with_reducible refine gate_callee (f := 10) rfl ?_); refine goesL_ (some 11) rfl rfl Tryd.func10 (by kernel_rfl) rfl #[] rfl (by (try simp only [List.map_toArray, List.map_cons, List.map_nil]); first | done | rfl | (simp only [List.length_drop, List.length_take]; rfl)) ?_; (with_reducible refine (truantlaw01_awake.calls k  true _ A4.out).mono ?_); rintro e w27 ⟨rfl, hb⟩; refine ⟨_, rfl, ?_⟩; have n0_ := Aside0.mk (below_step (by repeat (first | (with_reducible first | exact HB.out | apply below_alloc | apply pw_below_drewN | apply below_drew1) | exact HB.out)) hb); clear HB; have HB := n0_; clear n0_; (try clear hb); (try clear hb2); (try clear hk); (try clear hi)) | ((with_reducible refine gate_callee (f := 11) rfl ?_); refine goesL_ (some 17) rfl rfl Tryd.func11 (by kernel_rfl) rfl #[.int .i64 a0, .int .i64 a1, .int .i64 a2] rfl (by (try simp only [List.map_toArray, List.map_cons, List.map_nil]); first | done | rfl | (simp only [List.length_drop, List.length_take]; rfl)) ?_; (with_reducible refine (num_Do.calls k a0 a1 a2 t194 t195 _ A6.out).mono ?_); rintro e w28 ⟨rfl, hb⟩; refine ⟨_, rfl, ?_⟩; have n0_ := Aside0.mk (below_step (by repeat (first | (with_reducible first | exact HB.out | apply below_alloc | apply pw_below_drewN | apply below_drew1) | exact HB.out)) hb); clear HB; have HB := n0_; clear n0_; (try clear hb); (try clear hb2); (try clear hk); (try clear hi)) | ((with_reducible refine gate_callee (f := 12) rfl ?_); refine goesL_ (some 24) rfl rfl Tryd.func12 (by kernel_rfl) rfl #[.int .i64 a0, .int .i64 a1, .int .i64 a2] rfl (by (try simp only [List.map_toArray, List.map_cons, List.map_nil]); first | done | rfl | (simp only [List.length_drop, List.length_take]; rfl)) ?_; (with_reducible refine (truantref01_Do.calls a0 a1 a2 t196 t197 _ A7.out).mono ?_); rintro e w29 ⟨rfl, hb⟩; refine ⟨_, rfl, ?_⟩; have n0_ := Aside0.mk (below_step (by repeat (first | (with_reducible first | exact HB.out | apply below_alloc | apply pw_below_drewN | apply below_drew1) | exact HB.out)) hb); clear HB; have HB := n0_; clear n0_; (try clear hb); (try clear hb2); (try clear hk); (try clear hi)) | (go_at_call 13; (with_reducible refine (num_IsBinary.calls a0 t198 _ A10.out).mono ?_); rintro e w' ⟨rfl, ⟨nd, rfl⟩⟩) | (go_at_call 14; (with_reducible refine (num_IsUnary.calls a0 t200 _ A22.out).mono ?_); rintro e w' ⟨rfl, ⟨nd, rfl⟩⟩))
       go_ret
       exact ⟨by first | rfl | (simp [errW_none, errW_some] <;> rfl) | (simp [*, errW_none, errW_some] <;> rfl), by repeat (first | (with_reducible first | exact HB.out | apply below_alloc | apply pw_below_drewN | apply below_drew1) | exact HB.out)⟩
     ·rw [if_neg c21] at H
      exact absurd H (by simp)
   ·rw [if_neg c9] at H
    exact absurd H (by simp)
  ·rw [if_neg c8] at H
   exact absurd H (by simp)
 ·replace c5 := Bool.eq_false_iff.mpr c5
  subst c5
  have H1 : (none) = some r := by rw [if_neg (show ¬ (false = true) by decide)] at H; exact H
  clear H
  have H := H1
  clear H1
  exact absurd H (by simp)
end Go.Proofs.YtcmppjonpmgncaaDoor.Q
/- How an argument of a type reads: out of the form's reading comes the value that the printed walks take. -/
namespace Go.Proofs.YtcmppjonpmgncaaDoor.Q
open Go.RowKit Go.Proofs.YtcmppjonpmgncaaDoorW.PrintWords Go.Proofs.YtcmppjonpmgncaaDoorW.PrintLast Go.Proofs.YtcmppjonpmgncaaDoorW.PrintMore
set_option linter.unusedVariables false
set_option linter.unusedSimpArgs false
section
variable {P : Program}
end
def NumExact.Pure : Prop := ∀ (a0 : Int) (a1 : Int) (a2 : Int), (fun n : Int => (Lit.int .i64 n).wf = true) a0 → (fun n : Int => (Lit.int .i64 n).wf = true) a1 → (fun n : Int => (Lit.int .i64 n).wf = true) a2 → ∃ k, truantlaw01_NumExact.f k a0 a1 a2 = some true
section
variable {α : Type}
end
def R64 (x : Int) : Prop := -9223372036854775808 ≤ x ∧ x ≤ 9223372036854775807
theorem R64.of {x : Int} (h : (fun n : Int => (Lit.int .i64 n).wf = true) x) : R64 x := by
 have : (Lit.int .i64 x).wf = true := h
 simpa [Lit.wf, IntKind.min, IntKind.max, IntKind.signed, IntKind.bits, R64] using this
theorem wrap_id {x : Int} (h : R64 x) : wrap64 x = x := by unfold R64 at h; unfold wrap64; omega
theorem wrap_of_mod {a b : Int} (h : a % 18446744073709551616 = b % 18446744073709551616) : wrap64 a = wrap64 b := by unfold wrap64; omega
theorem shl_is (x : Int) (n : Nat) (h : n ≤ 64) : shl .i64 x n = wrap64 (x * 2 ^ n) := by
 unfold shl
 rw [IntKind.wrap_i64, show min ((n : Int).toNat) IntKind.i64.bits = n by simp [IntKind.bits]; omega]
 unfold wrap64
 rfl
theorem shr_is (x : Int) (n : Nat) (h : n ≤ 64) : shr .i64 x n = x / 2 ^ n := by
 unfold shr
 rw [show min ((n : Int).toNat) IntKind.i64.bits = n by simp [IntKind.bits]; omega]
theorem awake_all : ∀ k, truantlaw01_awake.f (k + 30) = some true := by
 have h : truantlaw01_awake.f 30 = some true := by kernel_rfl
 intro k
 induction k with
 | zero => exact h
 | succ k ih => have := truantlaw01_awake.mono (k + 30) _ ih; rwa [show k + 30 + 1 = k + 1 + 30 by omega] at this
theorem do_1 (k : Nat) (x y : Int) : num_Do.f (k + 30) 1 x y = some (wrap64 (x + y), 0) := by simp [num_Do.f, num_Do.j0, num_Do.j1, num_Do.j2, num_IsBinary.f, num_plain.f]
theorem do_2 (k : Nat) (x y : Int) : num_Do.f (k + 30) 2 x y = some (wrap64 (x - y), 0) := by simp [num_Do.f, num_Do.j0, num_Do.j1, num_Do.j2, num_IsBinary.f, num_plain.f]
theorem do_3 (k : Nat) (x y : Int) : num_Do.f (k + 30) 3 x y = some (wrap64 (x * y), 0) := by simp [num_Do.f, num_Do.j0, num_Do.j1, num_Do.j2, num_IsBinary.f, num_plain.f]
theorem do_4 (k : Nat) (x y : Int) : num_Do.f (k + 30) 4 x y = if y = 0 then some (0, 11) else some (wrap64 (Int.tdiv x y), 0) := by
 by_cases h : y = 0 <;> simp [num_Do.f, num_Do.j0, num_Do.j1, num_Do.j2, num_IsBinary.f, num_divide.f, h]
theorem do_5 (k : Nat) (x y : Int) : num_Do.f (k + 30) 5 x y = if y = 0 then some (0, 11) else some (Int.tmod x y, 0) := by
 by_cases h : y = 0 <;> simp [num_Do.f, num_Do.j0, num_Do.j1, num_Do.j2, num_IsBinary.f, num_divide.f, h]
theorem do_6 (k : Nat) (x y : Int) : num_Do.f (k + 30) 6 x y = some (Go.bits .and .i64 x y, 0) := by simp [num_Do.f, num_Do.j0, num_Do.j1, num_Do.j2, num_IsBinary.f, num_plain.f]
theorem do_7 (k : Nat) (x y : Int) : num_Do.f (k + 30) 7 x y = some (Go.bits .or .i64 x y, 0) := by simp [num_Do.f, num_Do.j0, num_Do.j1, num_Do.j2, num_IsBinary.f, num_plain.f]
theorem do_8 (k : Nat) (x y : Int) : num_Do.f (k + 30) 8 x y = some (Go.bits .xor .i64 x y, 0) := by simp [num_Do.f, num_Do.j0, num_Do.j1, num_Do.j2, num_IsBinary.f, num_plain.f]
theorem do_9 (k : Nat) (x y : Int) : num_Do.f (k + 30) 9 x y = num_shift.f 9 x y := by
 simp only [num_Do.f, num_Do.j0, num_Do.j1, num_Do.j2, num_IsBinary.f]
 simp
 cases num_shift.f 9 x y <;> rfl
theorem do_10 (k : Nat) (x y : Int) : num_Do.f (k + 30) 10 x y = num_shift.f 10 x y := by
 simp only [num_Do.f, num_Do.j0, num_Do.j1, num_Do.j2, num_IsBinary.f]
 simp
 cases num_shift.f 10 x y <;> rfl
theorem shl_val {x y : Int} (hy : R64 y) : num_shift.f 9 x y = if y < 0 then some (0, 12) else some (if y ≥ 64 then 0 else wrap64 (x * 2 ^ y.toNat), 0) := by
 unfold num_shift.f
 by_cases h1 : y < 0
 ·simp [h1]
 ·rw [if_neg h1, if_neg h1, if_neg (by decide)]
  by_cases h2 : y ≥ 64
  ·simp [h2]
  ·obtain ⟨n, rfl⟩ : ∃ n : Nat, y = n := ⟨y.toNat, by omega⟩
   rw [if_neg h2, if_neg h2]
   have e : IntKind.u64.wrap (n : Int) = n := by rw [IntKind.wrap_u64]; omega
   rw [e, if_pos (by omega), shl_is _ _ (by omega)]
   rfl
theorem shr_val {x y : Int} (hy : R64 y) : num_shift.f 10 x y = if y < 0 then some (0, 12) else some (x / 2 ^ (min y.toNat 63), 0) := by
 unfold num_shift.f
 by_cases h1 : y < 0
 ·simp [h1]
 ·rw [if_neg h1, if_neg h1, if_pos rfl]
  obtain ⟨n, rfl⟩ : ∃ n : Nat, y = n := ⟨y.toNat, by omega⟩
  have e : IntKind.u64.wrap (mn (n : Int) 63) = ((min n 63 : Nat) : Int) := by rw [IntKind.wrap_u64]; unfold mn; split <;> omega
  rw [e, if_pos (by omega), shr_is _ _ (by omega)]
  rfl
theorem isBin (op : Int) : num_IsBinary.f op = some (decide (1 ≤ op ∧ op ≤ 16)) := by
 unfold num_IsBinary.f
 by_cases h : op ≥ 1
 ·by_cases h2 : op ≤ 16 <;> simp [h, h2, show 1 ≤ op by omega]
 ·simp [h, show ¬ 1 ≤ op by omega]
theorem isUn (op : Int) : num_IsUnary.f op = some (decide (op = 17 ∨ op = 18)) := by
 unfold num_IsUnary.f
 by_cases h : op = 17
 ·simp [h]
 ·by_cases h2 : op = 18 <;> simp [h, h2]
theorem trN (b : Bool) : num_truth.f b = some (if b then 1 else 0) := by unfold num_truth.f; cases b <;> rfl
theorem doe_11 (k : Nat) (x y : Int) : num_Do.f (k + 30) 11 x y = some (if x = y then 1 else 0, 0) := by
 by_cases h : x = y <;> simp [num_Do.f, num_Do.j0, num_Do.j1, num_Do.j2, num_IsBinary.f, num_plain.f, num_compare.f, trN, h]
theorem doe_12 (k : Nat) (x y : Int) : num_Do.f (k + 30) 12 x y = some (if x = y then 0 else 1, 0) := by
 by_cases h : x = y <;> simp [num_Do.f, num_Do.j0, num_Do.j1, num_Do.j2, num_IsBinary.f, num_plain.f, num_compare.f, trN, h]
theorem doe_13 (k : Nat) (x y : Int) : num_Do.f (k + 30) 13 x y = some (if x < y then 1 else 0, 0) := by
 by_cases h : x < y <;> simp [num_Do.f, num_Do.j0, num_Do.j1, num_Do.j2, num_IsBinary.f, num_plain.f, num_compare.f, trN, h]
theorem doe_14 (k : Nat) (x y : Int) : num_Do.f (k + 30) 14 x y = some (if x ≤ y then 1 else 0, 0) := by
 by_cases h : x ≤ y <;> simp [num_Do.f, num_Do.j0, num_Do.j1, num_Do.j2, num_IsBinary.f, num_plain.f, num_compare.f, trN, h]
theorem doe_15 (k : Nat) (x y : Int) : num_Do.f (k + 30) 15 x y = some (if y < x then 1 else 0, 0) := by
 by_cases h : y < x <;> simp [num_Do.f, num_Do.j0, num_Do.j1, num_Do.j2, num_IsBinary.f, num_plain.f, num_compare.f, trN, h]
theorem doe_16 (k : Nat) (x y : Int) : num_Do.f (k + 30) 16 x y = some (if y ≤ x then 1 else 0, 0) := by
 by_cases h : y ≤ x <;> simp [num_Do.f, num_Do.j0, num_Do.j1, num_Do.j2, num_IsBinary.f, num_plain.f, num_compare.f, trN, h]
theorem doe_17 (k : Nat) (x y : Int) : num_Do.f (k + 30) 17 x y = some (wrap64 (-x), 0) := by
 simp [num_Do.f, num_Do.j0, num_Do.j1, num_Do.j2, num_IsBinary.f, num_IsUnary.f, num_plain.f]
theorem doe_18 (k : Nat) (x y : Int) : num_Do.f (k + 30) 18 x y = some (if x = 0 then 1 else 0, 0) := by
 by_cases h : x = 0 <;> simp [num_Do.f, num_Do.j0, num_Do.j1, num_Do.j2, num_IsBinary.f, num_IsUnary.f, num_plain.f, trN, h]
theorem doe_no (k : Nat) (op x y : Int) (h : ¬ (1 ≤ op ∧ op ≤ 18)) : num_Do.f (k + 30) op x y = some (0, 9) := by
 have h1 : num_IsBinary.f op = some false := by rw [isBin, decide_eq_false (by omega)]
 have h2 : num_IsUnary.f op = some false := by rw [isUn, decide_eq_false (by omega)]
 simp [num_Do.f, num_Do.j0, h1, h2]
theorem bmodW (z : Int) : z.bmod (2 ^ 64) = wrap64 z := by
 simp only [Int.bmod]
 unfold wrap64
 split <;> omega
theorem in_toInt {x : Int} (h : R64 x) : (BitVec.ofInt 64 x).toInt = x := by rw [BitVec.toInt_ofInt, bmodW, wrap_id h]
theorem msb63 (a : BitVec 64) : a.getLsbD 63 = a.msb := (BitVec.msb_eq_getLsbD_last a).symm
theorem quo_is (a b : BitVec 64) : quoX (a.getLsbD 63) (b.getLsbD 63) (sizeBV a / sizeBV b) = a.sdiv b := by
 unfold quoX sizeBV
 rw [msb63, msb63, BitVec.sdiv_eq]
 cases a.msb <;> cases b.msb <;> rfl
theorem rem_is (a b : BitVec 64) : sizeS (a.getLsbD 63) (sizeBV a % sizeBV b) = a.srem b := by
 unfold sizeS sizeBV
 rw [msb63, msb63, BitVec.srem_eq]
 cases a.msb <;> cases b.msb <;> rfl
theorem zero_iff {y : Int} (h : R64 y) : BitVec.ofInt 64 y = 0#64 ↔ y = 0 := by
 constructor
 ·intro e
  have := in_toInt h
  rw [e] at this
  simpa using this.symm
 ·rintro rfl; rfl
theorem bits_is (a : BitVec 64) : IntKind.i64.wrap (a.toNat : Int) = a.toInt := by
 rw [IntKind.wrap_i64, BitVec.toInt_eq_toNat_bmod, bmodW]
 unfold wrap64; rfl
theorem do_same (op x y : Int) (hx : R64 x) (hy : R64 y) : num_Do.f 40 op x y = some (doB op (BitVec.ofInt 64 x) (BitVec.ofInt 64 y) y) := by
 have ex := in_toInt hx
 have ey := in_toInt hy
 have eq_iff : (BitVec.ofInt 64 x = BitVec.ofInt 64 y) ↔ x = y := ⟨fun e => by rw [← ex, ← ey, e], fun e => by rw [e]⟩
 have hz := zero_iff hy
 have hzx := zero_iff hx
 obtain ⟨a, ha⟩ : ∃ a, a = BitVec.ofInt 64 x := ⟨_, rfl⟩
 obtain ⟨b, hb⟩ : ∃ b, b = BitVec.ofInt 64 y := ⟨_, rfl⟩
 rw [← ha] at ex eq_iff hzx ⊢
 rw [← hb] at ey eq_iff hz ⊢
 have hf : ofB false = 0#64 := rfl
 have ht : ofB true = 1#64 := rfl
 by_cases h : 1 ≤ op ∧ op ≤ 18
 ·have hop : op = 1 ∨ op = 2 ∨ op = 3 ∨ op = 4 ∨ op = 5 ∨ op = 6 ∨ op = 7 ∨ op = 8 ∨ op = 9 ∨ op = 10 ∨ op = 11 ∨ op = 12 ∨ op = 13 ∨ op = 14 ∨ op = 15 ∨ op = 16 ∨ op = 17 ∨ op = 18 := by omega
  rcases hop with rfl | rfl | rfl | rfl | rfl | rfl | rfl | rfl | rfl | rfl | rfl | rfl | rfl | rfl | rfl | rfl | rfl | rfl
  ·rw [do_1 10]; show _ = some ((a + b + ofB false).toInt, 0)
   rw [hf, BitVec.add_zero, BitVec.toInt_add, bmodW, ex, ey]
  ·rw [do_2 10]; show _ = some ((a + ~~~b + ofB true).toInt, 0)
   rw [ht, BitVec.add_assoc, ← BitVec.neg_eq_not_add, ← BitVec.sub_eq_add_neg, BitVec.toInt_sub, bmodW, ex, ey]
  ·rw [do_3 10]; show _ = some ((BitVec.ofNat 64 (a.toNat * b.toNat)).toInt, 0)
   have e : BitVec.ofNat 64 (a.toNat * b.toNat) = a * b := by apply BitVec.eq_of_toNat_eq; rw [BitVec.toNat_ofNat, BitVec.toNat_mul]
   rw [e, BitVec.toInt_mul, bmodW, ex, ey]
  ·rw [do_4 10]; show _ = some (if b = 0#64 then (0, 11) else ((quoX (a.getLsbD 63) (b.getLsbD 63) (sizeBV a / sizeBV b)).toInt, 0))
   by_cases h0 : y = 0
   ·rw [if_pos h0, if_pos (hz.mpr h0)]
   ·rw [if_neg h0, if_neg (fun e => h0 (hz.mp e)), quo_is, BitVec.toInt_sdiv, bmodW, ex, ey]
  ·rw [do_5 10]; show _ = some (if b = 0#64 then (0, 11) else ((sizeS (a.getLsbD 63) (sizeBV a % sizeBV b)).toInt, 0))
   by_cases h0 : y = 0
   ·rw [if_pos h0, if_pos (hz.mpr h0)]
   ·rw [if_neg h0, if_neg (fun e => h0 (hz.mp e)), rem_is, BitVec.toInt_srem, ex, ey]
  ·rw [do_6 10]; show _ = some ((a &&& b).toInt, 0)
   rw [← bits_is, ha, hb]; rfl
  ·rw [do_7 10]; show _ = some ((a ||| b).toInt, 0)
   rw [← bits_is, ha, hb]; rfl
  ·rw [do_8 10]; show _ = some ((a ^^^ b).toInt, 0)
   rw [← bits_is, ha, hb]; rfl
  ·rw [do_9 10, shl_val hy]; show _ = some (if b.getLsbD 63 = true then (0, 12) else ((a <<< (min y.toNat 64)).toInt, 0))
   rw [neg_bit hb hy]
   by_cases h0 : y < 0
   ·rw [if_pos h0, if_pos (decide_eq_true h0)]
   ·have hd : ¬ decide (y < 0) = true := by simpa using h0
    rw [if_neg h0, if_neg hd]
    by_cases h64 : y ≥ 64
    ·rw [if_pos h64, show min y.toNat 64 = 64 by omega]
     have e : a <<< 64 = 0#64 := by apply BitVec.eq_of_toNat_eq; rw [BitVec.toNat_shiftLeft, Nat.shiftLeft_eq]; simp
     rw [e]; rfl
    ·rw [if_neg h64, show min y.toNat 64 = y.toNat by omega, BitVec.toInt_shiftLeft, bmodW, Nat.shiftLeft_eq]
     have e : wrap64 (x * 2 ^ y.toNat) = wrap64 ((a.toNat * 2 ^ y.toNat : Nat) : Int) := by
      apply wrap_of_mod
      have e2 : (a.toNat : Int) = x % 18446744073709551616 := by
       rw [ha, BitVec.toNat_ofInt]; omega
      have hp : (2 : Int) ^ y.toNat = ((2 ^ y.toNat : Nat) : Int) := by simp
      rw [hp, Int.natCast_mul, e2, Int.mul_emod (x % 18446744073709551616), Int.emod_emod_of_dvd _ (Int.dvd_refl _), ← Int.mul_emod]
     rw [e]
  ·rw [do_10 10, shr_val hy]; show _ = some (if b.getLsbD 63 = true then (0, 12) else ((a.sshiftRight (min y.toNat 64)).toInt, 0))
   rw [neg_bit hb hy]
   by_cases h0 : y < 0
   ·rw [if_pos h0, if_pos (decide_eq_true h0)]
   ·have hd : ¬ decide (y < 0) = true := by simpa using h0
    rw [if_neg h0, if_neg hd, BitVec.toInt_sshiftRight, ex, Int.shiftRight_eq_div_pow]
    unfold R64 at hx
    by_cases h64 : y.toNat ≤ 63
    ·rw [show min y.toNat 64 = min y.toNat 63 by omega]; rfl
    ·rw [show min y.toNat 64 = 64 by omega, show min y.toNat 63 = 63 by omega]
     congr 2
     show x / 9223372036854775808 = x / 18446744073709551616
     omega
  ·rw [doe_11 10]; show _ = some (tr (a == b), 0)
   by_cases h0 : x = y
   ·rw [if_pos h0, beq_iff_eq.mpr (eq_iff.mpr h0)]; rfl
   ·rw [if_neg h0, beq_eq_false_iff_ne.mpr (fun e => h0 (eq_iff.mp e))]; rfl
  ·rw [doe_12 10]; show _ = some (tr (!(a == b)), 0)
   by_cases h0 : x = y
   ·rw [if_pos h0, beq_iff_eq.mpr (eq_iff.mpr h0)]; rfl
   ·rw [if_neg h0, beq_eq_false_iff_ne.mpr (fun e => h0 (eq_iff.mp e))]; rfl
  ·rw [doe_13 10]; show _ = some (tr (decide (a.toInt < b.toInt)), 0)
   rw [ex, ey]
   by_cases h0 : x < y
   ·rw [if_pos h0, decide_eq_true h0]; rfl
   ·rw [if_neg h0, decide_eq_false h0]; rfl
  ·rw [doe_14 10]; show _ = some (tr (!(decide (b.toInt < a.toInt))), 0)
   rw [ex, ey]
   by_cases h0 : y < x
   ·rw [if_neg (by omega), decide_eq_true h0]; rfl
   ·rw [if_pos (by omega), decide_eq_false h0]; rfl
  ·rw [doe_15 10]; show _ = some (tr (decide (b.toInt < a.toInt)), 0)
   rw [ex, ey]
   by_cases h0 : y < x
   ·rw [if_pos h0, decide_eq_true h0]; rfl
   ·rw [if_neg h0, decide_eq_false h0]; rfl
  ·rw [doe_16 10]; show _ = some (tr (!(decide (a.toInt < b.toInt))), 0)
   rw [ex, ey]
   by_cases h0 : x < y
   ·rw [if_neg (by omega), decide_eq_true h0]; rfl
   ·rw [if_pos (by omega), decide_eq_false h0]; rfl
  ·rw [doe_17 10]; show _ = some ((-a).toInt, 0)
   rw [BitVec.toInt_neg, bmodW, ex]
  ·rw [doe_18 10]; show _ = some (tr (a == 0#64), 0)
   by_cases h0 : x = 0
   ·rw [if_pos h0, beq_iff_eq.mpr (hzx.mpr h0)]; rfl
   ·rw [if_neg h0, beq_eq_false_iff_ne.mpr (fun e => h0 (hzx.mp e))]; rfl
 ·rw [doe_no 10 op x y h]
  unfold doB
  iterate 18 rw [if_neg (by omega)]
theorem NumExact_pure : NumExact.Pure := by
 intro op x y _ hx0 hy0
 have hx := R64.of hx0
 have hy := R64.of hy0
 refine ⟨40, ?_⟩
 have h1 := do_same op x y hx hy
 have h2 : truantref01_Do.f op x y = some (doB op (BitVec.ofInt 64 x) (BitVec.ofInt 64 y) y) := by unfold truantref01_Do.f; exact if_pos hy
 unfold truantlaw01_NumExact.f
 rw [awake_all 10, h1, h2, isBin, isUn]
 simp only [Option.bind_some, if_true]
 by_cases h : op ≥ 1
 ·rw [if_pos h]
  by_cases h16 : op ≤ 16
  ·rw [decide_eq_true (show 1 ≤ op ∧ op ≤ 16 by omega), decide_eq_true h16, decide_eq_false (show ¬ (op = 17 ∨ op = 18) by omega), if_pos (by rfl), if_neg (by omega), beq_eq_false_iff_ne.mpr (show op ≠ 18 by omega)]
   rfl
  ·rw [decide_eq_false (show ¬ (1 ≤ op ∧ op ≤ 16) by omega), decide_eq_false h16, if_pos (by rfl)]
   by_cases h17 : op = 17
   ·rw [if_pos h17, decide_eq_true (.inl h17)]; rfl
   ·rw [if_neg h17]
    by_cases h18 : op = 18
    ·subst h18; rfl
    ·rw [decide_eq_false (by omega), beq_eq_false_iff_ne.mpr h18]; rfl
 ·rw [if_neg h, decide_eq_false (show ¬ (1 ≤ op ∧ op ≤ 16) by omega), if_pos (by rfl), if_neg (by omega), decide_eq_false (show ¬ (op = 17 ∨ op = 18) by omega), beq_eq_false_iff_ne.mpr (show op ≠ 18 by omega)]
  rfl
theorem gES : Tryd.prog.globalNamed "strconv.ErrSyntax" = some 0 := by kernel_rfl
theorem gER : Tryd.prog.globalNamed "strconv.ErrRange" = some 1 := by kernel_rfl
theorem gPow : Tryd.prog.globalNamed "internal/strconv.uint64pow10" = some 2 := by kernel_rfl
theorem gESType : (Tryd.prog.globals[0]?).map (·.type) = some 60 := by kernel_rfl
theorem gERType : (Tryd.prog.globals[1]?).map (·.type) = some 60 := by kernel_rfl
theorem gPowType : (Tryd.prog.globals[2]?).map (·.type) = some 102 := by kernel_rfl
theorem cellsES : Tryd.prog.cellsOf 101 = 1 := by kernel_rfl
theorem cellsStr : Tryd.prog.cellsOf 9 = 1 := by kernel_rfl
theorem cellsU64 : Tryd.prog.cellsOf 63 = 1 := by kernel_rfl
theorem cellsPow : Tryd.prog.cellsOf 102 = 20 := by kernel_rfl
theorem star_ : "*" ++ "errors.errorString" = "*errors.errorString" := by decide
theorem rowES (u : TypeId) (h : Tryd.prog.typeName? 3 u = some "*errors.errorString") : u = 99 :=
 typeName_ptr_named (nm := "errors.errorString") (by rw [star_]; kernel_rfl) (by kernel_rfl) (by decide) u (by rw [star_]; exact h)
theorem powData : (Rows.laid_internal_strconv_uint64pow10 : DataW Unit) = Lib.tabData .u64 Lib.pow10Tab := by kernel_rfl
def listed : List (String × DataW Unit) := [("math/bits.deBruijn32tab", Rows.laid_math_bits_deBruijn32tab), ("math/bits.deBruijn64tab", Rows.laid_math_bits_deBruijn64tab), ("internal/strconv.uint64pow10", Rows.laid_internal_strconv_uint64pow10), ("unicode/utf8.acceptRanges", Rows.laid_unicode_utf8_acceptRanges), ("strconv.ErrRange", Rows.laid_strconv_ErrRange), ("strconv.ErrSyntax", Rows.laid_strconv_ErrSyntax), ("unicode/utf8.first", Rows.laid_unicode_utf8_first)]
theorem glob_of_laid {W : World} (h : laidMetH Tryd.prog listed W) : Glob W := by
 rw [MakeChecks.laidMetH_plain _ _ _ (by kernel_rfl)] at h
 have h2 := h.tail.tail
 have h4 := h2.tail.tail
 have h5 := h4.tail
 rw [powData] at h2
 have a := Lib.tabIs_of_head gPow gPowType Tryd.underlying102 Tryd.underlying63 cellsU64 cellsPow h2
 obtain ⟨p4, _, v4, _, _, _⟩ := laid_sentinel h4 gER gERType Tryd.underlying60 rowES Tryd.underlying99 Tryd.underlying101 rfl rfl Tryd.underlying9 cellsES cellsStr
 obtain ⟨p5, _, v5, _, _, _⟩ := laid_sentinel h5 gES gESType Tryd.underlying60 rowES Tryd.underlying99 Tryd.underlying101 rfl rfl Tryd.underlying9 cellsES cellsStr
 exact ⟨a, ⟨_, _, v5⟩, ⟨_, _, v4⟩⟩
end Go.Proofs.YtcmppjonpmgncaaDoor.Q
