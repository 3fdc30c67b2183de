/- What the row of SccOrder rests on, part 1: contracts of the functions that it reaches, and the plain law. -/
import Derived.Test.YtclhjalgflebfaaJSccOrder0
/- tier.knots: by hand (drawn region by wip/tool/genSc.py). -/
namespace Go.Proofs.Ytclhjalgflebfaa.Q
open Go.RowKit Go.Proofs.YtclhjalgflebfaaW.PrintWords Go.Proofs.YtclhjalgflebfaaW.PrintLast Go.Proofs.YtclhjalgflebfaaW.PrintMore
set_option linter.unusedVariables false
set_option linter.unusedSimpArgs false
attribute [local go_sem] max2_int min2_int max_two min_two
/-- To whom the first i functions come. -/
def rowsTo (nx : Int → Option (List Int)) : Nat → Option (List (List Int))
 | 0 => some []
 | i + 1 => (rowsTo nx i).bind fun r => (nx (i : Int)).bind fun x => some (r ++ [x])
theorem rowsTo_len {nx : Int → Option (List Int)} : ∀ {n : Nat} {r : List (List Int)}, rowsTo nx n = some r → r.length = n
 | 0, r, h => by cases h; rfl
 | n + 1, r, h => by
  unfold rowsTo at h
  obtain ⟨r', h1, h⟩ := Option.bind_eq_some_iff.mp h
  obtain ⟨x, h2, h⟩ := Option.bind_eq_some_iff.mp h
  obtain rfl := Option.some.inj h
  rw [List.length_append, rowsTo_len h1]; rfl
theorem rowsTo_take {nx : Int → Option (List Int)} : ∀ {n : Nat} {r : List (List Int)}, rowsTo nx n = some r → ∀ i, i ≤ n → rowsTo nx i = some (r.take i)
 | 0, r, h, i, hi => by cases h; rw [show i = 0 by omega]; rfl
 | n + 1, r, h, i, hi => by
  have hl := rowsTo_len h
  by_cases e : i = n + 1
  ·rw [e, h, List.take_of_length_le (by omega)]
  ·unfold rowsTo at h
   obtain ⟨r', h1, h⟩ := Option.bind_eq_some_iff.mp h
   obtain ⟨x, h2, h⟩ := Option.bind_eq_some_iff.mp h
   obtain rfl := Option.some.inj h
   have hl' := rowsTo_len h1
   rw [rowsTo_take h1 i (by omega), List.take_append_of_le_length (by omega)]
theorem rowsTo_at {nx : Int → Option (List Int)} {n : Nat} {r : List (List Int)} (h : rowsTo nx n = some r) {i : Nat} (hi : i < n) : nx (i : Int) = some (r.getD i []) := by
 have hl := rowsTo_len h
 have h1 := rowsTo_take h (i + 1) (by omega)
 unfold rowsTo at h1
 rw [rowsTo_take h i (by omega), Option.bind_some] at h1
 obtain ⟨x, h2, h1⟩ := Option.bind_eq_some_iff.mp h1
 rw [h2]
 have e := Option.some.inj h1
 rw [List.take_succ_eq_append_getElem (by omega)] at e
 have := List.append_cancel_left e
 injection this with this
 rw [this, getD_at _ _ (by omega)]
theorem idx_l (l : List Int) (x : Int) (hm : l.length ≤ 9223372036854775807) (d : Nat) : ∀ (k i : Nat), i ≤ l.length → l.length - i = d → d < k → (∀ j : Nat, j < i → l.getD j 0 ≠ x) → ∃ r, slices_Index_int_int.l0 k l x (l.length : Int) (i : Int) = some r ∧ decide (r ≥ 0) = l.contains x := by
 induction d with
 | zero =>
  intro k i h0 hd hk h
  obtain ⟨k, rfl⟩ : ∃ m, k = m + 1 := ⟨k - 1, by omega⟩
  refine ⟨-1, by simp only [slices_Index_int_int.l0]; rw [if_neg (by omega)], ?_⟩
  rw [decide_eq_false (by omega)]
  symm
  rw [← Bool.not_eq_true, List.contains_iff_mem]
  intro hx
  obtain ⟨j, hj, e⟩ := List.mem_iff_getElem.mp hx
  exact h j (by omega) (by rw [getD_at _ _ hj]; exact e)
 | succ d ih =>
  intro k i h0 hd hk h
  obtain ⟨k, rfl⟩ : ∃ m, k = m + 1 := ⟨k - 1, by omega⟩
  by_cases e : x = rd l (i : Int)
  ·refine ⟨i, by simp only [slices_Index_int_int.l0]; rw [if_pos (by omega), if_pos (by omega), if_pos (by omega), if_pos e], ?_⟩
   rw [decide_eq_true (by omega)]
   symm
   rw [List.contains_iff_mem, e]
   unfold rd
   rw [Int.toNat_natCast, getD_at _ _ (by omega)]
   exact List.getElem_mem _
  ·obtain ⟨r, h1, h2⟩ := ih k (i + 1) (by omega) (by omega) (by omega) (all_succ h (by unfold rd at e; rw [Int.toNat_natCast] at e; exact fun q => e q.symm))
   refine ⟨r, ?_, h2⟩
   simp only [slices_Index_int_int.l0]
   rw [if_pos (by omega), if_pos (by omega), if_pos (by omega), if_neg e, wrap_succ (by omega) (by omega)]
   exact h1
theorem contains_is (l : List Int) (x : Int) (hm : l.length ≤ 9223372036854775807) : slices_Contains_int_int.f (l.length + 1) l x = some (l.contains x) := by
 obtain ⟨r, h1, h2⟩ := idx_l l x hm l.length (l.length + 1) 0 (by omega) (by omega) (by omega) (fun j hj => by omega)
 unfold slices_Contains_int_int.f slices_Index_int_int.f
 have h3 : slices_Index_int_int.l0 (l.length + 1) l x (l.length : Int) 0 = some r := h1
 rw [h3, Option.bind_some, h2]
theorem comesG_in {nx : Int → Option (List Int)} {P : Int → Prop} (hnx : ∀ x l, nx x = some l → ∀ y ∈ l, P y) : ∀ (k : Nat) (todo out r : List Int), comesG nx k todo out = some r → (∀ x ∈ todo, P x) → (∀ x ∈ out, P x) → ∀ x ∈ r, P x
 | 0, _, _, _, h, _, _ => by cases h
 | k + 1, todo, out, r, h, ht, ho => by
  unfold comesG at h
  split at h
  ·rename_i hp
   have hx : P (rd todo ((todo.length - 1 : Nat) : Int)) := ht _ (by
    unfold rd
    rw [Int.toNat_natCast, getD_at _ _ (by omega)]
    exact List.getElem_mem _)
   split at h
   ·obtain ⟨ns, hns, h⟩ := Option.bind_eq_some_iff.mp h
    split at h
    ·refine comesG_in hnx k _ _ r h (fun y hy => ?_) (fun y hy => ?_)
     ·rcases List.mem_append.mp hy with hy | hy
      ·exact ht y (List.mem_of_mem_take hy)
      ·exact hnx _ _ hns y hy
     ·rcases List.mem_append.mp hy with hy | hy
      ·exact ho y hy
      ·rw [List.mem_singleton.mp hy]; exact hx
    ·cases h
   ·exact comesG_in hnx k _ _ r h (fun y hy => ht y (List.mem_of_mem_take hy)) ho
  ·split at h
   ·obtain rfl := Option.some.inj h; exact ho
   ·cases h
theorem comes_in {l0 : List S150} {l1 : List S152} {l2 : List S26} {a1 : Int} {r : List Int} (h : scc_Comes.f l0 l1 l2 a1 = some r) : ∀ x ∈ r, inR l2.length x = true := by
 unfold scc_Comes.f at h
 obtain ⟨l, hl, h⟩ := Option.bind_eq_some_iff.mp h
 obtain ⟨out, hout, rfl⟩ := Option.map_eq_some_iff.mp h
 intro x hx
 rw [upI_mem] at hx
 exact comesG_in (fun x l h => calls_in h) _ _ _ _ hout (calls_in hl) (fun x hx => (nomatch hx)) x hx
/-- The least one of a function's knot. -/
def leastS (rows : List (List Int)) (i : Int) (m k : Int) : Int := if (rd_L6 rows k).contains i = true then (if k < m then k else m) else m
def leastR (rows : List (List Int)) (i : Nat) : Int := (rows.getD i []).foldl (leastS rows i) i
def knP (rows : List (List Int)) (n : Nat) : List Int := (List.range n).map (leastR rows)
theorem knP_succ (rows : List (List Int)) (n : Nat) : knP rows (n + 1) = knP rows n ++ [leastR rows n] := by unfold knP; rw [List.range_succ, List.map_append]; rfl
theorem knP_len (rows : List (List Int)) (n : Nat) : (knP rows n).length = n := by unfold knP; simp
def knots_rows.T4 : Bool × List (List Nat × List Nat) := (true, [([], []), ([], []), ([1], [1]), ([2], [2]), ([3], [3]), ([], []), ([], []), ([5, 6], [5, 6]), ([7], [7]), ([4, 8, 7], [4, 8]), ([0, 0, 1, 2, 3, 4, 5, 6, 7, 8, 9], [0]), ([10, 0, 1, 2, 3, 4, 5, 6, 7, 8, 9], [10]), ([11, 9, 9, 0, 1, 2, 3, 4, 5, 6, 7, 8, 9], [9, 11])])
def knots_rows.B4 : List Nat := [0, 0, 2, 6, 14, 0, 0, 96, 224, 510, 1023, 2047, 4095]
theorem knots_rows.tab4 : rtab .any (opsOf Try.f60 4) = knots_rows.T4 := by kernel_rfl
theorem knots_rows.bits4 : waitsOk knots_rows.T4.2 knots_rows.B4 = true := by kernel_rfl
set_option maxRecDepth 100000 in
set_option maxHeartbeats 4000000 in
theorem knots_at {w W : World} {gt : Nat} {A0 A1 A2 : Option Addr} {c0 c1 c2 : Nat} {l0 : List S150} {l1 : List S152} {l2 : List S26} {rows : List (List Int)} (hp : PAt w A0 c0 l0 A1 c1 l1 A2 c2 l2) (HB : Below w.heap.size w W) (hg : W.heap[gt]? = some (.cells #[.slice none 0 0, .slice none 0 0, .map none] 81 (0, 0))) (hlow : w.heap.size ≤ gt)
  (hr : rowsTo (scc_Comes.f l0 l1 l2) l2.length = some rows) (hn : l2.length ≤ LIMS) :
  Calls Try.prog 60 #[.pointer (some ⟨gt, 0, none⟩), .agg #[.slice A0 l0.length c0, .slice A1 l1.length c1, .slice A2 l2.length c2]] W fun e W' => e = .returned (.tuple #[]) ∧ ∃ B0 d0 B1 d1, W'.heap[gt]? = some (.cells #[.slice B0 rows.length d0, .slice B1 l2.length d1, .map none] 81 (0, 0)) ∧ Below w.heap.size w W' ∧ (∀ W2, Kept W' W2 (fun k => k = gt) → (Kd.slice 3 (Kd.int .i64)).C W2 B0 rows.length rows ∧ (Kd.int .i64).C W2 B1 l2.length (knP rows l2.length)) := by
 have HPW := Aside0.mk hp; have HROWS := Aside0.mk hr; have HN := Aside0.mk hn; have HLOW := Aside0.mk hlow
 have hgt := blk_lt hg
 have HGW := Aside0.mk hgt
 have HB0 := Aside0.mk (below_alloc HB (.cells #[.slice A0 l0.length c0, .slice A1 l1.length c1, .slice A2 l2.length c2] 48))
 have HBX := Aside0.mk (blk_new W (.cells #[.slice A0 l0.length c0, .slice A1 l1.length c1, .slice A2 l2.length c2] 48))
 have HG0 := Aside0.mk (blk_alloc hg (.cells #[.slice A0 l0.length c0, .slice A1 l1.length c1, .slice A2 l2.length c2] 48))
 have hm2 := Kd.C_max hp.r2
 clear hp HB hg hlow hr hn hgt
 go_enter Try.func60, Try.ntmps60
 go_upto_region 1 with fail
 generalize W.alloc (.cells #[.slice A0 l0.length c0, .slice A1 l1.length c1, .slice A2 l2.length c2] 48) = W1 at HB0 HBX HG0 ⊢
 generalize W.heap.size = bx at HBX HGW ⊢
 have ks := bk3 HBX.out
 go_wp2_with fail
 go_loopg [4, 12] l2.length (fun kq _ v12 wr => ∃ (i : Nat) (v : Value), v12 = .int .i64 i ∧ i + kq = l2.length ∧ Aside0 (wr.heap[gt]? = some (.cells #[v, .slice none 0 0, .map none] 81 (0, 0))) ∧ Aside0 (wr.heap[bx]? = some (.cells #[.slice A0 l0.length c0, .slice A1 l1.length c1, .slice A2 l2.length c2] 48 (0, 0))) ∧ Aside0 ((Kd.slice 3 (Kd.int .i64)).R 34 wr w.heap.size (fun k => k ≠ gt) v (rows.take i)) ∧ Aside0 (Below w.heap.size w wr))
 case atStart => exact ⟨0, _, rfl, Nat.zero_add _, HG0, HBX, ⟨Kd.R_nil _ _ _ _ _⟩, HB0⟩
 case round =>
  clear HG0 HBX HB0 ks
  obtain ⟨i, v, rfl, hik, HG, HBX, HO, HB⟩ := hrel
  by_cases hlt : i < l2.length
  ·obtain ⟨k1, rfl⟩ : ∃ k1, gk = k1 + 1 := ⟨gk - 1, by omega⟩
   obtain ⟨Av, cv, rfl⟩ := Kd.R_slice HO.out
   have hlr := rowsTo_len HROWS.out
   have HNX := Aside0.mk (rowsTo_at HROWS.out hlt)
   obtain ⟨x, hx⟩ : ∃ x, x = rows.getD i [] := ⟨_, rfl⟩
   obtain ⟨r, hrr⟩ : ∃ r, r = rows.take i := ⟨_, rfl⟩
   have HEX : Aside0 (rows.take (i + 1) = r ++ [x]) := ⟨by rw [List.take_succ_eq_append_getElem (by omega), hrr, hx, getD_at _ _ (by omega)]⟩
   have HRL : Aside0 (r.length ≤ LIMS) := ⟨by rw [hrr, List.length_take]; have := HN.out; omega⟩
   rw [← hx] at HNX
   rw [← hrr] at HO HG
   clear hx hrr hlr
   go_upto_region 4 with fail
   refine start_ (n := 13) (S := fun w' => w'.heap[gt]? = some (.cells #[.slice Av r.length cv, .slice none 0 0, .map none] 81 (0, 0)) ∧ w'.heap[bx]? = some (.cells #[.slice A0 l0.length c0, .slice A1 l1.length c1, .slice A2 l2.length c2] 48 (0, 0))) (ds := [12]) (tf 0 13) (by kernel_rfl) rfl rfl ⟨(blk_drew HG.out), (blk_drew HBX.out)⟩ (fun hHeld => ?_)
   refine with_tabW knots_rows.tab4 knots_rows.bits4 (fun HT_ HW_ => ?_)
   refine pure_ (i := 0) (N := some 15) (v := ?_) (a' := ?_) (tf 1 12) rfl rfl (any_of HT_.out (by kernel_rfl)) (fun _ _ _ h => h) (Or.inl ⟨by rfl, ?_⟩) ?_ ?_
   rotate_left
   ·intro w'
    go_simp
    with_reducible rfl
   rotate_left
   ·simp only [Act.put, List.setIfInBounds_toArray, List.set_cons_zero, List.set_cons_succ, i64_w, i32_w]
    rfl
   refine pure_ (i := 1) (N := some 16) (v := ?_) (a' := ?_) (tf 2 11) rfl rfl (any_of HT_.out (by kernel_rfl)) (fun _ _ _ h => h) (Or.inl ⟨by rfl, ?_⟩) ?_ ?_
   rotate_left
   ·intro w'
    go_simp
    with_reducible rfl
   rotate_left
   ·simp only [Act.put, List.setIfInBounds_toArray, List.set_cons_zero, List.set_cons_succ, i64_w, i32_w]
    rfl
   refine pure_ (i := 2) (N := some 17) (v := ?_) (a' := ?_) (tf 3 10) rfl rfl (any_of HT_.out (by kernel_rfl)) (fun _ _ _ h => h) (Or.inl ⟨by rfl, ?_⟩) ?_ ?_
   rotate_left
   ·intro w'
    go_simp
    with_reducible rfl
   rotate_left
   ·simp only [Act.put, List.setIfInBounds_toArray, List.set_cons_zero, List.set_cons_succ, i64_w, i32_w]
    rfl
   refine pure_ (i := 3) (N := some 18) (v := ?_) (a' := ?_) (tf 4 9) rfl rfl (any_of HT_.out (by kernel_rfl)) (fun _ _ _ h => h) (Or.inl ⟨by rfl, ?_⟩) ?_ ?_
   rotate_left
   ·intro w'
    go_simp
    with_reducible rfl
   rotate_left
   ·simp only [Act.put, List.setIfInBounds_toArray, List.set_cons_zero, List.set_cons_succ, i64_w, i32_w]
    rfl
   refine pure_ (i := 6) (N := some 21) (v := ?_) (a' := ?_) #[true, true, true, true, false, false, true, false, false, false, false, false, false] rfl rfl (any_of HT_.out (by kernel_rfl)) (fun _ _ _ h => h) (Or.inl ⟨by rfl, ?_⟩) ?_ ?_
   rotate_left
   ·intro w'
    go_simp
    with_reducible rfl
   rotate_left
   ·simp only [Act.put, List.setIfInBounds_toArray, List.set_cons_zero, List.set_cons_succ, i64_w, i32_w]
    rfl
   refine take_ (i := 4) (N := some 19) (v := ?_) (a' := ?_) #[true, true, true, true, true, false, true, false, false, false, false, false, false] rfl rfl (take_ofW HT_.out HW_.out (by kernel_rfl)) (fun _ _ _ h => h) (Or.inl ⟨by rfl, ?_⟩) hHeld ?_ ?_
   rotate_left
   ·rintro w' ⟨s0, s1⟩
    obtain ⟨y0, y1, y2, _⟩ := bk3 s0
    go_simp
    with_reducible rfl
   rotate_left
   ·simp only [Act.put, List.setIfInBounds_toArray, List.set_cons_zero, List.set_cons_succ, i64_w, i32_w]
    rfl
   refine take_ (i := 5) (N := some 20) (v := ?_) (a' := ?_) (tf 7 6) rfl rfl (take_ofW HT_.out HW_.out (by kernel_rfl)) (fun _ _ _ h => h) (Or.inl ⟨by rfl, ?_⟩) hHeld ?_ ?_
   rotate_left
   ·rintro w' ⟨s0, s1⟩
    obtain ⟨y0, y1, y2, _⟩ := bk3 s1
    go_simp
    with_reducible rfl
   rotate_left
   ·simp only [Act.put, List.setIfInBounds_toArray, List.set_cons_zero, List.set_cons_succ, i64_w, i32_w]
    rfl
   refine one_ (i := 7) (N := some 22) (tf 8 5) rfl rfl (one_of HT_.out (by kernel_rfl)) (by decide) (fun K hK => ?_)
   refine goes_ Try.func32 (by kernel_rfl) rfl #[.agg #[.slice A0 l0.length c0, .slice A1 l1.length c1, .slice A2 l2.length c2], .int .i64 (i : Int)] (by rfl) rfl rfl (by simp only [List.map_toArray, List.map_cons, List.map_nil]; rfl) ?_
   refine (comes_at (i : Int) x _ (HPW.out.below (below_drew HB.out)) HNX.out).mono ?_
   rintro e w4 ⟨v4, rfl, hr4, hb4⟩
   refine ⟨_, rfl, ?_⟩
   obtain ⟨A4, c4, e4⟩ := Kd.R_slice hr4
   subst e4
   have HR4 := Aside0.mk hr4
   have HB34 := Aside0.mk hb4
   have HG4 := Aside0.mk (blkB hHeld.1 hb4)
   have HL4 := Aside0.mk (blkB hHeld.2 hb4)
   have HB4 := Aside0.mk (below_step (below_drew HB.out) hb4)
   have HO4 := Aside0.mk (Kd.R_below (Kd.R_bound (Kd.R_below HO.out (below_drew (Below.refl _ _)))) hb4)
   refine hK.out _ _ ⟨(blkB hHeld.1 hb4), (blkB hHeld.2 hb4)⟩ (fun hHeld => ?_)
   clear hK K
   refine norm_ (a' := ?_) ?_ ?_
   rotate_left
   ·show Act.put _ (some 22) _ = _
    simp only [Act.put, List.setIfInBounds_toArray, List.set_cons_zero, List.set_cons_succ, i64_w, i32_w]
    rfl
   refine one_ (i := 8) (N := some 23) (tf 9 4) rfl rfl (one_of HT_.out (by kernel_rfl)) (by decide) (fun K hK => ?_)
   refine value_ (w1 := ?_) (v := ?_) (by rfl) rfl ?_ ?_
   rotate_left 2
   ·go_simp
    constructor
    ·rfl
    ·rfl
   refine hK.out _ _ ⟨(blk_alloc hHeld.1 _), (blk_alloc hHeld.2 _)⟩ (fun hHeld => ?_)
   clear hK K
   refine norm_ (a' := ?_) ?_ ?_
   rotate_left
   ·show Act.put _ (some 23) _ = _
    simp only [Act.put, List.setIfInBounds_toArray, List.set_cons_zero, List.set_cons_succ, i64_w, i32_w]
    rfl
   refine one_ (i := 9) (N := some 24) (tf 10 3) rfl rfl (one_of HT_.out (by kernel_rfl)) (by decide) (fun K hK => ?_)
   refine Kd.R_append_step (Kd.slice 3 (Kd.int .i64)) (w0 := w) w.heap.size (by rfl) (.tmp 19) (.tmp 23) 29 34 (.slice none 0 0) 24 rfl Try.underlying29 info34 rfl (by decide) (by decide) (.slice Av r.length cv) r x [.slice A4 x.length c4] (fun k => k ≠ gt) (fun k => some k = (Value.slice A4 x.length c4).ownBlock) rfl rfl ?aP ?aK ?aF ?aO HB4.out HB4.out.size ?aL ?_
   case aP => exact ⟨_, rfl, Kd.R_tight rfl (Kd.R_lower HR4.out HB.out.size)⟩
   case aK =>
    exact fun k hk => by
     have hge : wr.heap.size ≤ k := Kd.R_base HR4.out k hk.symm
     have h3 := blk_lt HG.out
     refine ⟨fun e => by omega, fun e => ?_⟩
     have := Kd.R_lt HO.out k e.symm
     omega
   case aF =>
    exact fun k hk => by
     have h3 := blk_lt HG4.out
     omega
   case aO => exact Kd.R_mono HO4.out (fun k hk => hk.1)
   case aL => have := HRL.out; unfold LIMS at this; omega
   intro v6 w6 ho6 hb6 hg6 _
   obtain ⟨A6, c6, e6⟩ := Kd.R_slice ho6
   subst e6
   have HO6 := Aside0.mk ho6
   have HB6 := Aside0.mk hb6
   have hng : some gt ≠ (Value.slice Av r.length cv).ownBlock := fun e => HO.out.1 gt e.symm rfl
   have HG6 := Aside0.mk (blkG HG4.out hg6 hng)
   have HL6 := Aside0.mk (blkG HL4.out hg6 (Kd.R_ne HO4.out HL4.out (by decide)))
   clear ho6 hb6 hg6
   refine hK.out _ _ ⟨HG6.out, HL6.out⟩ (fun hHeld => ?_)
   clear hK K
   refine norm_ (a' := ?_) ?_ ?_
   rotate_left
   ·show Act.put _ (some 24) _ = _
    simp only [Act.put, List.setIfInBounds_toArray, List.set_cons_zero, List.set_cons_succ, i64_w, i32_w]
    rfl
   refine pure_ (i := 10) (N := some 25) (v := ?_) (a' := ?_) (tf 11 2) rfl rfl (any_of HT_.out (by kernel_rfl)) (fun _ _ _ h => h) (Or.inl ⟨by rfl, ?_⟩) ?_ ?_
   rotate_left
   ·intro w'
    go_simp
    with_reducible rfl
   rotate_left
   ·simp only [Act.put, List.setIfInBounds_toArray, List.set_cons_zero, List.set_cons_succ, i64_w, i32_w]
    rfl
   refine pure_ (i := 11) (N := some 26) (v := ?_) (a' := ?_) (tf 12 1) rfl rfl (any_of HT_.out (by kernel_rfl)) (fun _ _ _ h => h) (Or.inl ⟨by rfl, ?_⟩) ?_ ?_
   rotate_left
   ·intro w'
    go_simp
    with_reducible rfl
   rotate_left
   ·simp only [Act.put, List.setIfInBounds_toArray, List.set_cons_zero, List.set_cons_succ, i64_w, i32_w]
    rfl
   refine last_ (i := 12) (N := none) (tf 13 0) rfl rfl (one_of HT_.out (by kernel_rfl)) (by decide) (fun K hK => ?_)
   obtain ⟨y0, y1, y2, z0, z1, z2⟩ := bk3 hHeld.1
   refine skip_ (w1 := ?_) (by rfl) rfl ?_ ?_
   rotate_left
   ·go_simp
    rfl
   refine hK.out _ _ ?_
   clear hK K
   refine done_ (done_of HT_.out (by kernel_rfl)) ?_
   have e6 : Value.slice A6 (r ++ [x]).length c6 = .slice A6 (r.length + 1) c6 := by rw [List.length_append, List.length_singleton]
   rw [e6] at HO6
   have HG9 := Aside0.mk (blk_put HG6.out 0 (.slice A6 (r.length + 1) c6) rfl)
   have HBX9 := Aside0.mk (blk_far HL6.out (p := ⟨gt, 0, none⟩) (fun e => by have := HGW.out; rw [e] at this; exact absurd this (Nat.lt_irrefl _)) (.slice A6 (r.length + 1) c6))
   have HO9 := Aside0.mk (Kd.R_set HO6.out HG6.out (by decide) 0 (.slice A6 (r.length + 1) c6))
   have HB9 := Aside0.mk (below_set (g := gt) (j := 0) (v := .slice A6 (r.length + 1) c6) HB6.out HLOW.out)
   go_wp2
   go_roundg k1
   case measure => omega
   case rel => exact ⟨i + 1, _, by go_num, by omega, HG9, HBX9, ⟨by rw [HEX.out]; exact HO9.out⟩, HB9⟩
  ·have hie : i = l2.length := by omega
   have hlr := rowsTo_len HROWS.out
   have hO := HO.out
   rw [hie, List.take_of_length_le (by omega)] at hO
   obtain ⟨B0, d0, rfl⟩ := Kd.R_slice hO
   have hCF : ∀ W', Kept wr W' (fun k => k = gt) → (Kd.slice 3 (Kd.int .i64)).C W' B0 rows.length rows := Kd.C_kept_own hO (fun k hk => hk)
   have HCF := Aside0.mk hCF; have HLR := Aside0.mk hlr
   have ks := bk3 HBX.out
   have hBXK : ∀ W', Kept wr W' (fun k => k = gt) → W'.heap[bx]? = some (.cells #[.slice A0 l0.length c0, .slice A1 l1.length c1, .slice A2 l2.length c2] 48 (0, 0)) := fun W' hk => (hk.2 bx (blk_lt HBX.out) (fun e => by have := HGW.out; omega)).trans HBX.out
   have HGW2 := Aside0.mk (blk_lt HG.out)
   have HM3 : Aside0 (rows.length ≤ 9223372036854775807) := ⟨by omega⟩
   clear hO hie HO hlr hCF hBXK
   obtain ⟨w1, rfl⟩ : ∃ w1, w1 = wr := ⟨_, rfl⟩
   go_wp2_with fail
   go_loopg [5, 6, 8, 31] l2.length (fun kq _ _ _ v31 w2 => ∃ (i : Nat) (v : Value), v31 = .int .i64 i ∧ i + kq = l2.length ∧ Aside0 (w2.heap[gt]? = some (.cells #[.slice B0 rows.length d0, v, .map none] 81 (0, 0))) ∧ Aside0 ((Kd.int .i64).R 3 w2 w.heap.size (fun k => w1.heap.size ≤ k) v (knP rows i)) ∧ Aside0 (Below w.heap.size w w2) ∧ Aside0 (Kept w1 w2 (fun k => k = gt)))
   case atStart => exact ⟨0, _, rfl, Nat.zero_add _, HG, ⟨Kd.R_nil _ _ _ _ _⟩, HB, ⟨Kept.refl _ _⟩⟩
   case round =>
    clear HG HB
    obtain ⟨i, v, rfl, hik, HG, HO, HB, HK⟩ := hrel
    by_cases hlt2 : i < l2.length
    ·obtain ⟨k1, rfl⟩ : ∃ k1, gk = k1 + 1 := ⟨gk - 1, by omega⟩
     obtain ⟨ad, Ai, ci, ea, hx0, hci, hCi⟩ := at_L6 (HCF.out _ HK.out) (i : Int) (by omega) (by have := HLR.out; omega)
     subst ea
     obtain ⟨row, hrow⟩ : ∃ row, row = rd_L6 rows (i : Int) := ⟨_, rfl⟩
     rw [← hrow] at hx0 hci hCi
     have hrow2 : row = rows.getD i [] := by rw [hrow]; unfold rd_L6; rw [Int.toNat_natCast]
     have HINR : Aside0 (∀ x ∈ row, inR l2.length x = true) := ⟨comes_in (by rw [hrow2]; exact rowsTo_at HROWS.out hlt2)⟩
     have HRW := Aside0.mk hrow2
     rw [Int.toNat_natCast] at hx0
     obtain ⟨y0, y1, y2, _⟩ := bk3 HG.out
     have HCI := Aside0.mk hCi
     have hrm := Kd.C_max hCi
     have hle : i < rows.length := by have := HLR.out; omega
     have HLT2 := Aside0.mk hlt2
     clear hrow hrow2 hCi hci
     go_wp2_with fail
     clear hx0 y0 y1 y2
     go_loopg [6, 8, 43] row.length (fun kq v6 _ v43 w3 => ∃ (j : Nat), v43 = .int .i64 j ∧ v6 = .int .i64 ((row.take j).foldl (leastS rows i) i) ∧ j + kq = row.length ∧ Aside0 (Below wr.heap.size wr w3))
     case atStart => exact ⟨0, rfl, by rw [List.take_zero]; rfl, Nat.zero_add _, ⟨Below.refl _ _⟩⟩
     case round =>
      obtain ⟨j, rfl, rfl, hjk, HB3⟩ := hrel
      by_cases hj : j < row.length
      ·obtain ⟨k2, rfl⟩ : ∃ k2, gk = k2 + 1 := ⟨gk - 1, by omega⟩
       obtain ⟨ak, ea, hkc⟩ := at_int (Kd.C_below HCI.out HB3.out) j hj
       cases ea
       obtain ⟨x, hx⟩ : ∃ x, x = row.getD j 0 := ⟨_, rfl⟩
       rw [← hx] at hkc
       have hxr : row[j] = x := by rw [hx, getD_at row 0 hj]
       obtain ⟨q0, q1⟩ := inR_iff.mp (HINR.out x (by rw [← hxr]; exact List.getElem_mem hj))
       have hq2 : x < (rows.length : Int) := by have := HLR.out; omega
       obtain ⟨ad2, Ax, cx, ea2, hz0, hcx, hCx⟩ := at_L6 (HCF.out _ (HK.out.below HB3.out)) x q0 (by omega)
       cases ea2
       obtain ⟨rx, hrx⟩ : ∃ rx, rx = rd_L6 rows x := ⟨_, rfl⟩
       rw [← hrx] at hz0 hcx hCx
       obtain ⟨y0, y1, y2, _⟩ := bk3 (blk_below HG.out HB3.out)
       obtain ⟨m, hm⟩ : ∃ m, m = (row.take j).foldl (leastS rows i) (i : Int) := ⟨_, rfl⟩
       have HF : Aside0 ((row.take (j + 1)).foldl (leastS rows i) (i : Int) = if rx.contains (i : Int) = true then (if x < m then x else m) else m) := ⟨by
        rw [List.take_succ_eq_append_getElem hj, List.foldl_append, hxr, hrx, hm]; rfl⟩
       have HCX := Aside0.mk hCx; have HLX := Aside0.mk hcx
       have hcm := contains_is rx (i : Int) (Kd.C_max hCx)
       rw [← hm]
       clear hx hxr hrx hcx hCx hm
       cases hq : rx.contains (i : Int) with
       | true =>
        rw [hq] at hcm
        have HCM := Aside0.mk hcm
        rw [if_pos (by rw [hq])] at HF
        clear hcm hq
        go_wp2_with fail
        refine (slices_Contains_int_int.calls (rx.length + 1) Ax cx rx (i : Int) true _ HCX.out HLX.out HCM.out).mono ?_
        rintro e w4 ⟨rfl, hd4⟩
        have HB4 := Aside0.mk (below_step HB3.out hd4.below)
        clear hd4 HCM
        by_cases hxm : x < m
        ·rw [if_pos hxm] at HF
         go_wp2
         go_roundg k2
         case measure => omega
         case rel => exact ⟨j + 1, by go_num, by rw [HF.out], by omega, HB4⟩
        ·rw [if_neg hxm] at HF
         go_wp2
         go_roundg k2
         case measure => omega
         case rel => exact ⟨j + 1, by go_num, by rw [HF.out], by omega, HB4⟩
       | false =>
        rw [hq] at hcm
        have HCM := Aside0.mk hcm
        rw [if_neg (by rw [hq]; decide)] at HF
        clear hcm hq
        go_wp2_with fail
        refine (slices_Contains_int_int.calls (rx.length + 1) Ax cx rx (i : Int) false _ HCX.out HLX.out HCM.out).mono ?_
        rintro e w4 ⟨rfl, hd4⟩
        have HB4 := Aside0.mk (below_step HB3.out hd4.below)
        clear hd4 HCM
        go_wp2
        go_roundg k2
        case measure => omega
        case rel => exact ⟨j + 1, by go_num, by rw [HF.out], by omega, HB4⟩
      ·have hje : j = row.length := by omega
       have HLE : Aside0 (knP rows (i + 1) = knP rows i ++ [row.foldl (leastS rows i) (i : Int)]) := ⟨by rw [knP_succ]; unfold leastR; rw [HRW.out]⟩
       rw [hje, List.take_length]
       obtain ⟨x, hx⟩ : ∃ x, x = row.foldl (leastS rows i) (i : Int) := ⟨_, rfl⟩
       obtain ⟨M, hM⟩ : ∃ M, M = knP rows i := ⟨_, rfl⟩
       have HML : Aside0 (M.length ≤ LIMS) := ⟨by rw [hM, knP_len]; have := HN.out; omega⟩
       rw [← hx, ← hM] at HLE
       rw [← hx]
       rw [← hM] at HO
       have HG4 := Aside0.mk (blk_below HG.out HB3.out)
       have HO4 := Aside0.mk (Kd.R_below HO.out HB3.out)
       have HB4 := Aside0.mk (below_step HB.out HB3.out)
       have HK4 := Aside0.mk (HK.out.below HB3.out)
       obtain ⟨Av, cv, hv⟩ := Kd.R_slice HO4.out
       subst hv
       obtain ⟨y0, y1, y2, z0, z1, z2⟩ := bk3 HG4.out
       clear hx hM HB3 HG HO HB HK hje
       go_wp2_with (at_builtin; refine Kd.R_append (Kd.int .i64) (w0 := w) w.heap.size rfl (.tmp 64) (.tmp 66) 34 3 (.int .i64 0) 8 rfl Try.underlying34 info3 rfl (by decide) (by decide) _ M x [.int .i64 x] (fun k => w1.heap.size ≤ k) (fun _ => False) rfl rfl ?aP (fun _ hk => hk.elim) ?aF HO4.out HB4.out HB4.out.size ?aL ?_)
       case aP => exact rfl
       case aF => exact fun k hk => Nat.le_trans HK4.out.1 hk
       case aL => have := HML.out; unfold LIMS at this; omega
       intro v1 w5 hq5 hb5 hg5 hat5
       obtain ⟨A5, c5, hv⟩ := Kd.R_slice hq5
       subst hv
       rw [show Value.slice A5 (M ++ [x]).length c5 = .slice A5 (M.length + 1) c5 by rw [List.length_append, List.length_singleton]] at hq5 ⊢
       have HG5 := Aside0.mk (blk_grown HG4.out hg5 (Kd.R_ne HO4.out HG4.out (by decide)))
       have HO5 := Aside0.mk hq5; have HB5 := Aside0.mk hb5
       have HK5 := Aside0.mk (Kept.of_grown hg5 HK4.out (fun k hk => .inr (HO4.out.1 k hk)))
       clear hq5 hb5 hg5 hat5 y0 y1 y2 z0 z1 z2 HG4 HO4 HB4 HK4
       obtain ⟨y0, y1, y2, z0, z1, z2⟩ := bk3 HG5.out
       have HG9 := Aside0.mk (blk_put HG5.out 1 (.slice A5 (M.length + 1) c5) rfl)
       have HO9 := Aside0.mk (Kd.R_set HO5.out HG5.out (by decide) 1 (.slice A5 (M.length + 1) c5))
       have HB9 := Aside0.mk (below_set (g := gt) (j := 1) (v := .slice A5 (M.length + 1) c5) HB5.out HLOW.out)
       have HK9 := Aside0.mk (HK5.out.setCell (p := ⟨gt, 1, none⟩) (.inl rfl) (.slice A5 (M.length + 1) c5))
       clear HG5 HO5 HB5 HK5
       go_wp2
       go_roundg k1
       case measure => omega
       case rel => exact ⟨i + 1, _, by go_num, by omega, HG9, ⟨by rw [HLE.out]; exact HO9.out⟩, HB9, HK9⟩
    ·have hie2 : i = l2.length := by omega
     have hO := HO.out
     rw [hie2] at hO
     obtain ⟨B1, d1, hv⟩ := Kd.R_slice hO
     subst hv
     rw [knP_len] at hO HG
     have HFIN := Aside0.mk (Kd.C_kept_own hO (S := fun k => k = gt) (fun k hk e => by have := HGW2.out; rw [e] at hk; omega))
     have HG9 := Aside0.mk HG.out
     clear hO hie2 HG HO
     go_wp2
     go_end0
     exact ⟨rfl, B0, d0, B1, d1, by have := HLR.out; exact HG9.out, HB.out, fun W2 hW => ⟨HCF.out W2 (HK.out.then_ hW (fun k hk => .inl hk)), by have := HFIN.out W2 hW; exact this⟩⟩
end Go.Proofs.Ytclhjalgflebfaa.Q
/- tier.waits: by hand (wip/tool/genScW.py). -/
namespace Go.Proofs.Ytclhjalgflebfaa.Q
open Go.RowKit Go.Proofs.YtclhjalgflebfaaW.PrintWords Go.Proofs.YtclhjalgflebfaaW.PrintLast Go.Proofs.YtclhjalgflebfaaW.PrintMore
set_option linter.unusedVariables false
set_option linter.unusedSimpArgs false
/-- Whether a knot waits for another one, by the first n functions. -/
def waitsP (rows : List (List Int)) (kn : List Int) (n : Nat) (k y : Int) : Prop := ∃ i, i < n ∧ kn.getD i 0 = k ∧ ∃ x ∈ rows.getD i [], kn.getD x.toNat 0 = y ∧ y ≠ k
theorem waits_succ (rows : List (List Int)) (kn : List Int) (n : Nat) (k y : Int) : waitsP rows kn (n + 1) k y ↔ waitsP rows kn n k y ∨ (k = kn.getD n 0 ∧ ∃ x ∈ rows.getD n [], kn.getD x.toNat 0 = y ∧ y ≠ kn.getD n 0) := by
 constructor
 ·rintro ⟨i, hi, h1, x, h2, h3, h4⟩
  by_cases e : i = n
  ·subst e; exact .inr ⟨h1.symm, x, h2, h3, by rw [h1]; exact h4⟩
  ·exact .inl ⟨i, by omega, h1, x, h2, h3, h4⟩
 ·rintro (⟨i, hi, h⟩ | ⟨h1, x, h2, h3, h4⟩)
  ·exact ⟨i, by omega, h⟩
  ·exact ⟨n, by omega, h1.symm, x, h2, h3, by rw [h1]; exact h4⟩
theorem getD_in (l : List Int) (k : Nat) : l.getD k 0 ∈ 0 :: l := by
 by_cases h : k < l.length
 ·rw [getD_at _ _ h]; exact List.mem_cons_of_mem _ (List.getElem_mem h)
 ·simp [List.getD, List.getElem?_eq_none (Nat.le_of_not_lt h)]
theorem cell_move {w w1 : World} {a : Addr} {v : Value} (h : w.cell? a = some v) (hm : ∀ k : Nat, (∃ cs t f, w.heap[k]? = some (Obj.cells cs t f)) → w1.heap[k]? = w.heap[k]?) : w1.cell? a = some v := by
 have e : w1.heap[a.block]? = w.heap[a.block]? := by
  refine hm a.block ?_
  unfold World.cell? at h
  cases hh : w.heap[a.block]? with
  | none => simp [hh] at h
  | some o => cases o <;> simp [hh] at h <;> exact ⟨_, _, _, rfl⟩
 unfold World.cell? at h ⊢
 rw [e]; exact h
theorem C_int_move {w w1 : World} {A : Option Addr} {n : Nat} {xs : List Int} (h : (Kd.int .i64).C w A n xs) (hm : ∀ k : Nat, (∃ cs t f, w.heap[k]? = some (Obj.cells cs t f)) → w1.heap[k]? = w.heap[k]?) : (Kd.int .i64).C w1 A n xs := by
 obtain ⟨e1, e2, h⟩ := h
 refine ⟨e1, e2, fun hn => ?_⟩
 obtain ⟨ad, ea, h⟩ := h hn
 refine ⟨ad, ea, fun i p hp => ?_⟩
 obtain ⟨c, q1, q2, q3⟩ := h i p hp
 exact ⟨c, q1, q2, fun j u hu => cell_move (q3 j u hu) hm⟩
theorem eq_map_some (b : Nat) (w : World) : (Go.binOp BinOp.eql 77 (.map (some b)) (.map none)).run Try.prog w = .ok (.bool false) w := by kernel_rfl
theorem eq_map_none (w : World) : (Go.binOp BinOp.eql 77 (.map none) (.map none)).run Try.prog w = .ok (.bool true) w := by kernel_rfl
def waits_at.T10 : Bool × List (List Nat × List Nat) := (true, [([], []), ([0], [0]), ([1], [1]), ([2], [2]), ([], []), ([3, 4], [3, 4]), ([], []), ([6], [6]), ([7], [7]), ([8], [8]), ([], []), ([9, 10], [9, 10]), ([11], [11]), ([5, 12, 0, 1, 2, 3, 4, 5, 6, 7, 8, 9, 10, 11, 12], [5, 12])])
def waits_at.B10 : List Nat := [0, 1, 3, 7, 0, 31, 0, 64, 192, 448, 0, 1984, 4032, 8191]
theorem waits_at.tab10 : rtab .any (opsOf Try.f61 10) = waits_at.T10 := by kernel_rfl
theorem waits_at.bits10 : waitsOk waits_at.T10.2 waits_at.B10 = true := by kernel_rfl
set_option maxRecDepth 100000 in
set_option maxHeartbeats 8000000 in
theorem waits_at {w W : World} {gt : Nat} {B0 B1 : Option Addr} {d0 d1 : Nat} {rows : List (List Int)} {kn : List Int} (hg : W.heap[gt]? = some (.cells #[.slice B0 rows.length d0, .slice B1 kn.length d1, .map none] 81 (0, 0))) (HB : Below w.heap.size w W) (hlow : w.heap.size ≤ gt)
  (hF : ∀ W2, Kept W W2 (fun k => k = gt) → (Kd.slice 3 (Kd.int .i64)).C W2 B0 rows.length rows ∧ (Kd.int .i64).C W2 B1 kn.length kn) (hln : kn.length = rows.length) (hln2 : rows.length ≤ LIMS) (hin : ∀ r ∈ rows, ∀ x ∈ r, inR rows.length x = true) (hkn : ∀ x ∈ kn, inR rows.length x = true) :
  Calls Try.prog 61 #[.pointer (some ⟨gt, 0, none⟩)] W fun e W' => e = .returned (.tuple #[]) ∧ ∃ bl ks m L, W'.heap[gt]? = some (.cells #[.slice B0 rows.length d0, .slice B1 kn.length d1, .map (some bl)] 81 (0, 0)) ∧ WSt W' W.heap.size bl ks m L ∧ Below w.heap.size w W' ∧ Kept W W' (fun k => k = gt) ∧ (∀ x, x ∈ ks ↔ x ∈ kn) ∧ ∀ k ∈ ks, ∀ y, y ∈ L k ↔ waitsP rows kn kn.length k y := by
 have HF := Aside0.mk hF; have HLN := Aside0.mk hln; have HLN2 := Aside0.mk hln2; have HIN := Aside0.mk hin; have HKN := Aside0.mk hkn; have HLOW := Aside0.mk hlow
 have HWW := Aside0.mk HB.size
 have hm0 : kn.length ≤ 9223372036854775807 := by unfold LIMS at hln2; omega
 have hm1 : rows.length ≤ 9223372036854775807 := by unfold LIMS at hln2; omega
 have hgl := blk_lt hg
 have hM := MapG.made (K := iK) (E := mE) W (fun _ => none)
 have hg1 := blk_alloc hg (.map #[] 0)
 have HG1 := Aside0.mk (blk_put hg1 2 (.map (some W.heap.size)) rfl)
 have HM1 := Aside0.mk (MapG.setCell hM (a := ⟨gt, 2, none⟩) (by show W.heap.size ≠ gt; omega) (.map (some W.heap.size)))
 have HB1 := Aside0.mk (below_set (g := gt) (j := 2) (v := .map (some W.heap.size)) (below_alloc HB (.map #[] 0)) hlow)
 have HK1 := Aside0.mk (((Kept.refl W (fun k => k = gt)).alloc (.map #[] 0)).setCell (p := ⟨gt, 2, none⟩) (.inl rfl) (.map (some W.heap.size)))
 obtain ⟨bl, hbl⟩ : ∃ bl, bl = W.heap.size := ⟨_, rfl⟩
 rw [← hbl] at HG1 HM1 HB1 HK1
 have hmm := @run_makeMap Try.prog
 obtain ⟨y0, y1, y2, z0, z1, z2⟩ := bk3 hg1
 clear hF hln hln2 hin hkn hlow HB hg hM hg1 hgl
 go_enter Try.func61, Try.ntmps61
 go_upto_region 1 with fail
 rw [← hbl]
 generalize (W.alloc (.map #[] 0)).setCell ⟨gt, 2, none⟩ (.map (some bl)) = W1 at HG1 HM1 HB1 HK1 ⊢
 have HWL : Aside0 (WSt W1 W.heap.size bl [] (fun _ => none) (fun _ => [])) := ⟨⟨HM1.out, by rw [hbl]; exact Nat.le_refl _, fun k hk => (nomatch hk), fun k hk => (nomatch hk)⟩⟩
 clear y0 y1 y2 z0 z1 z2 HM1 hbl
 obtain ⟨y0, y1, y2, _⟩ := bk3 HG1.out
 go_wp2_with fail
 clear y0 y1 y2
 go_loopg [2, 3, 5, 15] kn.length (fun kq _ _ _ v15 wr => ∃ (i : Nat) (ks : List Int) (m : Int → Option Nat) (L : Int → List Int), v15 = .int .i64 i ∧ i + kq = kn.length ∧ Aside0 (wr.heap[gt]? = some (.cells #[.slice B0 rows.length d0, .slice B1 kn.length d1, .map (some bl)] 81 (0, 0))) ∧ Aside0 (WSt wr W.heap.size bl ks m L) ∧ Aside0 (Below w.heap.size w wr) ∧ Aside0 (Kept W wr (fun k => k = gt)) ∧ Aside0 (∀ x, x ∈ ks ↔ x ∈ kn.take i) ∧ Aside0 (∀ k ∈ ks, ∀ y, y ∈ L k ↔ waitsP rows kn i k y))
 case atStart => exact ⟨0, [], _, _, rfl, Nat.zero_add _, HG1, HWL, HB1, HK1, ⟨fun x => by simp⟩, ⟨fun k hk => (nomatch hk)⟩⟩
 case round =>
  clear HG1 HWL HB1 HK1
  obtain ⟨i, ks, m, L, rfl, hik, HG, HW, HB, HK, HKS, HWT⟩ := hrel
  by_cases hlt : i < kn.length
  ·obtain ⟨k1, rfl⟩ : ∃ k1, gk = k1 + 1 := ⟨gk - 1, by omega⟩
   obtain ⟨ad1, ea1, hx0⟩ := at_int (HF.out _ HK.out).2 i hlt
   cases ea1
   obtain ⟨kk, hkk⟩ : ∃ kk, kk = kn.getD i 0 := ⟨_, rfl⟩
   rw [← hkk] at hx0
   have HKK := Aside0.mk hkk
   have hkki : kn[i] = kk := by rw [hkk, getD_at _ _ hlt]
   have hkw : (Lit.int .i64 kk).wf = true := by
    have h := inR_iff.mp (HKN.out kk (by rw [← hkki]; exact List.getElem_mem hlt))
    have := HLN2.out
    unfold LIMS at this
    exact wf_int h.1 (by omega)
   have HKW := Aside0.mk hkw
   have htk2 : kn.take (i + 1) = kn.take i ++ [kk] := by rw [List.take_succ_eq_append_getElem hlt, hkki]
   have hlk := MapG.lookup HW.out.map Try.underlying79 hkw
   obtain ⟨y0, y1, y2, _⟩ := bk3 HG.out
   by_cases hmem : kk ∈ ks
   ·obtain ⟨bq, hmb, hSb, hlb, hnb⟩ := HW.out.inner kk hmem
    have hgt : (getG none ks m kk) = some bq := by unfold getG; rw [if_pos hmem]; exact hmb
    rw [hgt] at hlk
    have HKS9 : Aside0 (∀ x, x ∈ ks ↔ x ∈ kn.take (i + 1)) := ⟨fun x => by
     rw [htk2, List.mem_append, ← HKS.out x]
     exact ⟨.inl, fun h => h.elim id (fun e => by rw [List.mem_singleton.mp e]; exact hmem)⟩⟩
    have heq := eq_map_some bq
    clear hkk hkki hkw htk2 hgt hmb hSb hlb hnb
    go_upto_region 6 with fail
    clear hlk y0 y1 y2 hx0 heq
    obtain ⟨adr, Ar, cr, ear, hr0, hcr, hCr⟩ := at_L6 (HF.out _ HK.out).1 (i : Int) (by omega) (by have := HLN.out; omega)
    cases ear
    obtain ⟨row, hrow⟩ : ∃ row, row = rd_L6 rows (i : Int) := ⟨_, rfl⟩
    rw [← hrow] at hr0 hcr hCr
    have hrow2 : row = rows.getD i [] := by rw [hrow]; unfold rd_L6; rw [Int.toNat_natCast]
    rw [Int.toNat_natCast] at hr0
    have HCR := Aside0.mk hCr
    have hrm := Kd.C_max hCr
    have hle : i < rows.length := by have := HLN.out; omega
    have HRI : Aside0 (∀ x ∈ row, inR rows.length x = true) := ⟨by rw [hrow2, getD_at _ _ hle]; exact HIN.out _ (List.getElem_mem hle)⟩
    have HRW := Aside0.mk hrow2
    obtain ⟨y0, y1, y2, _⟩ := bk3 HG.out
    have HMEM := Aside0.mk hmem
    clear hrow hrow2 hCr hcr
    go_wp2_with fail
    clear hr0 y0 y1 y2
    go_loopg [5, 41] row.length (fun kq _ v41 w3 => ∃ (j : Nat) (L : Int → List Int), v41 = .int .i64 j ∧ j + kq = row.length ∧ Aside0 (WSt w3 W.heap.size bl ks m L) ∧ Aside0 (w3.heap[gt]? = some (.cells #[.slice (some adr) rows.length d0, .slice (some ad1) kn.length d1, .map (some bl)] 81 (0, 0))) ∧ Aside0 (Below w.heap.size w w3) ∧ Aside0 (Kept W w3 (fun k => k = gt)) ∧ Aside0 ((Kd.int .i64).C w3 Ar row.length row) ∧ Aside0 (∀ k' ∈ ks, ∀ y, y ∈ L k' ↔ waitsP rows kn i k' y ∨ (k' = kk ∧ ∃ x ∈ row.take j, kn.getD x.toNat 0 = y ∧ y ≠ kk)))
    case atStart => exact ⟨0, _, rfl, Nat.zero_add _, HW, HG, HB, HK, HCR, ⟨fun k' hk' y => by
     rw [HWT.out k' hk' y]
     simp⟩⟩
    case round =>
     clear HW HG HB HK HCR HWT
     obtain ⟨j, L, rfl, hjk, HW, HG, HB, HK, HCR, HWT⟩ := hrel
     by_cases hj : j < row.length
     ·obtain ⟨k2, rfl⟩ : ∃ k2, gk = k2 + 1 := ⟨gk - 1, by omega⟩
      obtain ⟨ak, ea, hkc⟩ := at_int HCR.out j hj
      cases ea
      obtain ⟨x, hx⟩ : ∃ x, x = row.getD j 0 := ⟨_, rfl⟩
      rw [← hx] at hkc
      have hxr : row[j] = x := by rw [hx, getD_at row 0 hj]
      obtain ⟨q0, q1⟩ := inR_iff.mp (HRI.out x (by rw [← hxr]; exact List.getElem_mem hj))
      have hq2 : x < (kn.length : Int) := by have := HLN.out; omega
      obtain ⟨ad2, ea2, hz0⟩ := Kd.at_int (HF.out _ HK.out).2 x q0 hq2
      cases ea2
      obtain ⟨y, hy⟩ : ∃ y, y = kn.getD x.toNat 0 := ⟨_, rfl⟩
      rw [show rd kn x = y from hy.symm] at hz0
      have HY := Aside0.mk hy
      have htk : row.take (j + 1) = row.take j ++ [x] := by rw [List.take_succ_eq_append_getElem hj, hxr]
      by_cases hyk : y = kk
      ·have hb1 : (y != kk) = false := by simp [hyk]
       have HN9 : Aside0 (∀ k' ∈ ks, ∀ y, y ∈ L k' ↔ waitsP rows kn i k' y ∨ (k' = kk ∧ ∃ x ∈ row.take (j + 1), kn.getD x.toNat 0 = y ∧ y ≠ kk)) := ⟨fun k' hk' z => by
        rw [HWT.out k' hk' z, htk]
        constructor
        ·rintro (h | ⟨h1, x', h2, h3⟩)
         ·exact .inl h
         ·exact .inr ⟨h1, x', List.mem_append_left _ h2, h3⟩
        ·rintro (h | ⟨h1, x', h2, h3, h4⟩)
         ·exact .inl h
         ·rcases List.mem_append.mp h2 with h2 | h2
          ·exact .inr ⟨h1, x', h2, h3, h4⟩
          ·rw [List.mem_singleton.mp h2, ← HY.out] at h3
           exact absurd (h3.symm.trans hyk) h4⟩
       obtain ⟨y0, y1, y2, _⟩ := bk3 HG.out
       clear hx hxr hy hyk htk HWT
       go_wp2
       go_roundg k2
       case measure => omega
       case rel => exact ⟨j + 1, L, by go_num, by omega, HW, HG, HB, HK, HCR, HN9⟩
      ·have hb1 : (y != kk) = true := by simp [hyk]
       obtain ⟨b, hmb, hSb, hlb, hnb⟩ := HW.out.inner kk HMEM.out
       have hgt : (getG none ks m kk) = some b := by unfold getG; rw [if_pos HMEM.out]; exact hmb
       have hyw : (Lit.int .i64 y).wf = true := by
        have h := inR_iff.mp (HKN.out y (by rw [hy, getD_at _ _ (by omega)]; exact List.getElem_mem _))
        have := HLN2.out
        unfold LIMS at this
        exact wf_int h.1 (by omega)
       have hlen : (L kk).length < maxLen := by
        have h1 := len_le_sub (r := 0 :: kn) hSb.nodup (fun z hz => by
         rcases (HWT.out kk HMEM.out z).mp hz with ⟨i', hi', _, x', _, h, _⟩ | ⟨_, x', hx', h, _⟩
         ·rw [← h]; exact getD_in _ _
         ·rw [← h]; exact getD_in _ _)
        have t1 := HLN2.out; have t2 := HLN.out
        rw [List.length_cons] at h1
        unfold LIMS at t1; unfold maxLen; omega
       have HCX : Aside0 (∀ w', Below wr.heap.size wr w' → w'.cell? (ad1.add x.toNat) = some (.int .i64 y)) := ⟨fun w' hb => pw_cell_below hb hz0⟩
       have HLK : Aside0 (∀ w', Below wr.heap.size wr w' → (Instr.lookup 79 (.map (some bl)) (.int .i64 kk) false).run Try.prog w' = .ok (.map (some b)) w') := ⟨fun w' hb => by
        rw [MapG.lookup (HW.out.below hb).map Try.underlying79 HKW.out, hgt]⟩
       obtain ⟨w5, hrun5, hS5, hg5⟩ := (SI.below hSb (below_drew (Below.refl wr.heap.size wr))).update (w := wr.drew) hlen hyw
       obtain ⟨es, cl, hmp⟩ := MapG.is_map hSb
       have HW5 := Aside0.mk ((HW.out.below (below_drew (Below.refl _ _))).turn HMEM.out hmb hS5 hg5)
       have HG5 := Aside0.mk (blk_grown (blk_drew HG.out) hg5 (fun e => by injection e with e; rw [← e, HG.out] at hmp; cases hmp))
       have HB5 := Aside0.mk ((below_drew HB.out).grown hg5 HB.out.size (fun k hk => by injection hk with hk; rw [← hk]; exact Nat.le_trans HWW.out hlb))
       have HK5 := Aside0.mk (Kept.of_grown hg5 HK.out.drew (fun k hk => by injection hk with hk; rw [← hk]; exact .inr hlb))
       have HCR5 : Aside0 ((Kd.int .i64).C w5 (some ak) row.length row) := ⟨C_int_move HCR.out (fun k ⟨cs, t, f, hc⟩ => hg5.block k (by exact (Array.getElem?_eq_some_iff.1 hc).1) (fun e => by injection e with e; rw [e, hmp] at hc; cases hc))⟩
       have HN9 : Aside0 (∀ k' ∈ ks, ∀ z, z ∈ setF L kk (addK (L kk) y) k' ↔ waitsP rows kn i k' z ∨ (k' = kk ∧ ∃ x ∈ row.take (j + 1), kn.getD x.toNat 0 = z ∧ z ≠ kk)) := ⟨fun k' hk' z => by
        rw [htk]
        unfold setF
        by_cases e : k' = kk
        ·rw [if_pos e, addK_mem, HWT.out kk HMEM.out z, e]
         constructor
         ·rintro ((h | ⟨h1, x', h2, h3⟩) | h)
          ·exact .inl h
          ·exact .inr ⟨rfl, x', List.mem_append_left _ h2, h3⟩
          ·exact .inr ⟨rfl, x, List.mem_append_right _ (by simp), by rw [h, HY.out], by rw [h]; exact hyk⟩
         ·rintro (h | ⟨h1, x', h2, h3, h4⟩)
          ·exact .inl (.inl h)
          ·rcases List.mem_append.mp h2 with h2 | h2
           ·exact .inl (.inr ⟨rfl, x', h2, h3, h4⟩)
           ·rw [List.mem_singleton.mp h2, ← HY.out] at h3
            exact .inr h3.symm
        ·rw [if_neg e, HWT.out k' hk' z]
         constructor
         ·rintro (h | ⟨h1, _⟩)
          ·exact .inl h
          ·exact absurd h1 e
         ·rintro (h | ⟨h1, _⟩)
          ·exact .inl h
          ·exact absurd h1 e⟩
       obtain ⟨y0, y1, y2, _⟩ := bk3 HG.out
       clear hx hxr hy hyk htk HWT hSb hlb hnb hgt hmb hS5 hg5 hyw hlen HY hmp
       go_upto_region 10 with fail
       clear y0 y1 y2 hz0 hkc hb1
       refine start_ (n := 14) (S := fun w' => Below wr.heap.size wr w') (ds := [13]) (tf 0 14) (by kernel_rfl) rfl rfl ((below_drew1 (Below.refl _ _))) (fun hHeld => ?_)
       refine with_tabW waits_at.tab10 waits_at.bits10 (fun HT_ HW_ => ?_)
       refine pure_ (i := 0) (N := some 54) (v := ?_) (a' := ?_) (tf 1 13) rfl rfl (any_of HT_.out (by kernel_rfl)) (fun _ _ _ h => h) (Or.inl ⟨by rfl, ?_⟩) ?_ ?_
       rotate_left
       ·intro w'
        go_simp
        with_reducible rfl
       rotate_left
       ·simp only [Act.put, List.setIfInBounds_toArray, List.set_cons_zero, List.set_cons_succ, i64_w, i32_w]
        rfl
       refine pure_ (i := 1) (N := some 55) (v := ?_) (a' := ?_) (tf 2 12) rfl rfl (any_of HT_.out (by kernel_rfl)) (fun _ _ _ h => h) (Or.inl ⟨by rfl, ?_⟩) ?_ ?_
       rotate_left
       ·intro w'
        go_simp
        with_reducible rfl
       rotate_left
       ·simp only [Act.put, List.setIfInBounds_toArray, List.set_cons_zero, List.set_cons_succ, i64_w, i32_w]
        rfl
       refine pure_ (i := 2) (N := some 56) (v := ?_) (a' := ?_) (tf 3 11) rfl rfl (any_of HT_.out (by kernel_rfl)) (fun _ _ _ h => h) (Or.inl ⟨by rfl, ?_⟩) ?_ ?_
       rotate_left
       ·intro w'
        go_simp
        with_reducible rfl
       rotate_left
       ·simp only [Act.put, List.setIfInBounds_toArray, List.set_cons_zero, List.set_cons_succ, i64_w, i32_w]
        rfl
       refine pure_ (i := 4) (N := some 58) (v := ?_) (a' := ?_) #[true, true, true, false, true, false, false, false, false, false, false, false, false, false] rfl rfl (any_of HT_.out (by kernel_rfl)) (fun _ _ _ h => h) (Or.inl ⟨by rfl, ?_⟩) ?_ ?_
       rotate_left
       ·intro w'
        go_simp
        with_reducible rfl
       rotate_left
       ·simp only [Act.put, List.setIfInBounds_toArray, List.set_cons_zero, List.set_cons_succ, i64_w, i32_w]
        rfl
       refine pure_ (i := 6) (N := some 60) (v := ?_) (a' := ?_) #[true, true, true, false, true, false, true, false, false, false, false, false, false, false] rfl rfl (any_of HT_.out (by kernel_rfl)) (fun _ _ _ h => h) (Or.inl ⟨by rfl, ?_⟩) ?_ ?_
       rotate_left
       ·intro w'
        go_simp
        with_reducible rfl
       rotate_left
       ·simp only [Act.put, List.setIfInBounds_toArray, List.set_cons_zero, List.set_cons_succ, i64_w, i32_w]
        rfl
       refine pure_ (i := 7) (N := some 61) (v := ?_) (a' := ?_) #[true, true, true, false, true, false, true, true, false, false, false, false, false, false] rfl rfl (any_of HT_.out (by kernel_rfl)) (fun _ _ _ h => h) (Or.inl ⟨by rfl, ?_⟩) ?_ ?_
       rotate_left
       ·intro w'
        go_simp
        with_reducible rfl
       rotate_left
       ·simp only [Act.put, List.setIfInBounds_toArray, List.set_cons_zero, List.set_cons_succ, i64_w, i32_w]
        rfl
       refine pure_ (i := 8) (N := some 62) (v := ?_) (a' := ?_) #[true, true, true, false, true, false, true, true, true, false, false, false, false, false] rfl rfl (any_of HT_.out (by kernel_rfl)) (fun _ _ _ h => h) (Or.inl ⟨by rfl, ?_⟩) ?_ ?_
       rotate_left
       ·intro w'
        go_simp
        with_reducible rfl
       rotate_left
       ·simp only [Act.put, List.setIfInBounds_toArray, List.set_cons_zero, List.set_cons_succ, i64_w, i32_w]
        rfl
       refine pure_ (i := 10) (N := some 64) (v := ?_) (a' := ?_) #[true, true, true, false, true, false, true, true, true, false, true, false, false, false] rfl rfl (any_of HT_.out (by kernel_rfl)) (fun _ _ _ h => h) (Or.inl ⟨by rfl, ?_⟩) ?_ ?_
       rotate_left
       ·intro w'
        go_simp
        with_reducible rfl
       rotate_left
       ·simp only [Act.put, List.setIfInBounds_toArray, List.set_cons_zero, List.set_cons_succ, i64_w, i32_w]
        rfl
       refine take_ (i := 3) (N := some 57) (v := ?_) (a' := ?_) #[true, true, true, true, true, false, true, true, true, false, true, false, false, false] rfl rfl (take_ofW HT_.out HW_.out (by kernel_rfl)) (fun _ _ _ h => h) (Or.inl ⟨by rfl, ?_⟩) hHeld ?_ ?_
       rotate_left
       ·intro w' s0
        obtain ⟨y0, y1, y2, _⟩ := bk3 (blk_below HG.out s0)
        go_simp
        with_reducible rfl
       rotate_left
       ·simp only [Act.put, List.setIfInBounds_toArray, List.set_cons_zero, List.set_cons_succ, i64_w, i32_w]
        rfl
       refine take_ (i := 5) (N := some 59) (v := ?_) (a' := ?_) #[true, true, true, true, true, true, true, true, true, false, true, false, false, false] rfl rfl (take_ofW HT_.out HW_.out (by kernel_rfl)) (fun _ _ _ h => h) (Or.inl ⟨by rfl, ?_⟩) hHeld ?_ ?_
       rotate_left
       ·intro w' s0
        have x9 := HLK.out w' s0
        go_simp
        with_reducible rfl
       rotate_left
       ·simp only [Act.put, List.setIfInBounds_toArray, List.set_cons_zero, List.set_cons_succ, i64_w, i32_w]
        rfl
       refine take_ (i := 9) (N := some 63) (v := ?_) (a' := ?_) (tf 11 3) rfl rfl (take_ofW HT_.out HW_.out (by kernel_rfl)) (fun _ _ _ h => h) (Or.inl ⟨by rfl, ?_⟩) hHeld ?_ ?_
       rotate_left
       ·intro w' s0
        obtain ⟨y0, y1, y2, _⟩ := bk3 (blk_below HG.out s0)
        go_simp
        with_reducible rfl
       rotate_left
       ·simp only [Act.put, List.setIfInBounds_toArray, List.set_cons_zero, List.set_cons_succ, i64_w, i32_w]
        rfl
       refine pure_ (i := 11) (N := some 65) (v := ?_) (a' := ?_) (tf 12 2) rfl rfl (any_of HT_.out (by kernel_rfl)) (fun _ _ _ h => h) (Or.inl ⟨by rfl, ?_⟩) ?_ ?_
       rotate_left
       ·intro w'
        go_simp
        with_reducible rfl
       rotate_left
       ·simp only [Act.put, List.setIfInBounds_toArray, List.set_cons_zero, List.set_cons_succ, i64_w, i32_w]
        rfl
       refine take_ (i := 12) (N := some 66) (v := ?_) (a' := ?_) (tf 13 1) rfl rfl (take_ofW HT_.out HW_.out (by kernel_rfl)) (fun _ _ _ h => h) (Or.inl ⟨by rfl, ?_⟩) hHeld ?_ ?_
       rotate_left
       ·intro w' s0
        have x9 := HCX.out w' s0
        go_simp
        with_reducible rfl
       rotate_left
       ·simp only [Act.put, List.setIfInBounds_toArray, List.set_cons_zero, List.set_cons_succ, i64_w, i32_w]
        rfl
       refine last_ (i := 13) (N := none) (tf 14 0) rfl rfl (one_of HT_.out (by kernel_rfl)) (by decide) (fun K hK => ?_)
       refine skip_ (w1 := w5) (by rfl) rfl ?_ ?_
       ·go_simp
       refine hK.out _ _ ?_
       clear hK K
       refine done_ (done_of HT_.out (by kernel_rfl)) ?_
       go_wp2
       go_roundg k2
       case measure => omega
       case rel => exact ⟨j + 1, _, by go_num, by omega, HW5, HG5, HB5, HK5, HCR5, HN9⟩
     ·have hje : j = row.length := by omega
      have HN9 : Aside0 (∀ k' ∈ ks, ∀ y, y ∈ L k' ↔ waitsP rows kn (i + 1) k' y) := ⟨fun k' hk' y => by
       rw [HWT.out k' hk' y, hje, List.take_length, waits_succ, HRW.out, HKK.out]⟩
      clear hje HWT
      go_wp2
      go_roundg k1
      case measure => omega
      case rel => exact ⟨i + 1, _, _, _, by go_num, by omega, HG, HW, HB, HK, HKS9, HN9⟩
   ·have hgt : (getG none ks m kk) = none := by unfold getG; rw [if_neg hmem]
    rw [hgt] at hlk
    have HKS9 : Aside0 (∀ x, x ∈ ks ++ [kk] ↔ x ∈ kn.take (i + 1)) := ⟨fun x => by
     rw [htk2, List.mem_append, List.mem_append, HKS.out x]⟩
    have hklen : ks.length < maxLen := by
     have h1 := len_le_sub (r := kn) HW.out.map.nodup (fun z hz => List.mem_of_mem_take ((HKS.out z).mp hz))
     have := HLN2.out; have := HLN.out
     unfold LIMS at *; unfold maxLen; omega
    have HKL := Aside0.mk hklen; have HNM := Aside0.mk hmem
    have HWT6 : Aside0 (∀ k' ∈ ks ++ [kk], ∀ y, y ∈ setF L kk [] k' ↔ waitsP rows kn i k' y) := ⟨fun k' hk' y => by
     unfold setF
     by_cases e : k' = kk
     ·rw [if_pos e]
      refine ⟨fun h => (nomatch h), fun ⟨i', hi', h1, _⟩ => absurd ((HKS.out kk).mpr ?_) hmem⟩
      rw [← e, ← h1, getD_at _ _ (by omega)]
      exact List.mem_take_iff_getElem.mpr ⟨i', by omega, rfl⟩
     ·rw [if_neg e]
      exact HWT.out k' ((List.mem_append.mp hk').resolve_right (by simpa using e)) y⟩
    have heq := eq_map_none
    have HWA := Aside0.mk (HW.out.alloc (.map #[] 0))
    have HSA := Aside0.mk (SI.made wr)
    have HNB : Aside0 (∀ k ∈ ks, m k ≠ some wr.heap.size) := ⟨fun k hk e => by
     obtain ⟨b', q1, q2, _⟩ := HW.out.inner k hk
     rw [q1] at e; injection e with e
     have := q2.lt; omega⟩
    have HBB : Aside0 (wr.heap.size ≠ bl) := ⟨fun e => by have := HW.out.map.lt; omega⟩
    have HLB : Aside0 (W.heap.size ≤ wr.heap.size) := ⟨HK.out.1⟩
    have HGA := Aside0.mk (blk_alloc HG.out (.map #[] 0))
    have HBA := Aside0.mk (below_alloc HB.out (.map #[] 0))
    have HKA := Aside0.mk (HK.out.alloc (.map #[] 0))
    clear hkk hkki hkw htk2 hgt hmem hklen HWT HKS
    go_wp2_with (at_mapUpdate; refine MapG.update_op HWA.out.map rfl (.tmp 30) (.tmp 31) (.tmp 32) rfl Try.underlying79 rfl HKL.out kk (some wr.heap.size) rfl rfl HKW.out trivial ?_)
    intro w6 hM6 hg6
    obtain ⟨bq, hbq⟩ : ∃ bq, bq = wr.heap.size := ⟨_, rfl⟩
    rw [← hbq] at hM6 HSA HNB HBB HLB ⊢
    have HW6 := Aside0.mk (HWA.out.added HSA.out HNB.out HBB.out HLB.out HNM.out hM6 hg6)
    have HG6 := Aside0.mk (blk_grown HGA.out hg6 (fun e => by injection e with e; exact HWA.out.map.ne_cells HGA.out e.symm))
    have HB6 := Aside0.mk (HBA.out.grown hg6 HBA.out.size (fun k hk => by injection hk with hk; rw [← hk]; exact Nat.le_trans HWW.out HWA.out.low))
    have HK6 := Aside0.mk (Kept.of_grown hg6 HKA.out (fun k hk => by injection hk with hk; rw [← hk]; exact .inr HWA.out.low))
    have hmem6 : kk ∈ ks ++ [kk] := by simp
    clear hM6 hg6 hlk y0 y1 y2 hx0 HW HG HB HK HWA HSA HNB HBB HGA HBA HKA heq hbq
    obtain ⟨adr, Ar, cr, ear, hr0, hcr, hCr⟩ := at_L6 (HF.out _ HK6.out).1 (i : Int) (by omega) (by have := HLN.out; omega)
    cases ear
    obtain ⟨row, hrow⟩ : ∃ row, row = rd_L6 rows (i : Int) := ⟨_, rfl⟩
    rw [← hrow] at hr0 hcr hCr
    have hrow2 : row = rows.getD i [] := by rw [hrow]; unfold rd_L6; rw [Int.toNat_natCast]
    rw [Int.toNat_natCast] at hr0
    have HCR := Aside0.mk hCr
    have hrm := Kd.C_max hCr
    have hle : i < rows.length := by have := HLN.out; omega
    have HRI : Aside0 (∀ x ∈ row, inR rows.length x = true) := ⟨by rw [hrow2, getD_at _ _ hle]; exact HIN.out _ (List.getElem_mem hle)⟩
    have HRW := Aside0.mk hrow2
    obtain ⟨y0, y1, y2, _⟩ := bk3 HG6.out
    have HMEM := Aside0.mk hmem6
    clear hrow hrow2 hCr hcr
    go_wp2_with fail
    clear hr0 y0 y1 y2
    go_loopg [5, 41] row.length (fun kq _ v41 w3 => ∃ (j : Nat) (L : Int → List Int), v41 = .int .i64 j ∧ j + kq = row.length ∧ Aside0 (WSt w3 W.heap.size bl (ks ++ [kk]) (setF m kk (some bq)) L) ∧ Aside0 (w3.heap[gt]? = some (.cells #[.slice (some adr) rows.length d0, .slice (some ad1) kn.length d1, .map (some bl)] 81 (0, 0))) ∧ Aside0 (Below w.heap.size w w3) ∧ Aside0 (Kept W w3 (fun k => k = gt)) ∧ Aside0 ((Kd.int .i64).C w3 Ar row.length row) ∧ Aside0 (∀ k' ∈ (ks ++ [kk]), ∀ y, y ∈ L k' ↔ waitsP rows kn i k' y ∨ (k' = kk ∧ ∃ x ∈ row.take j, kn.getD x.toNat 0 = y ∧ y ≠ kk)))
    case atStart => exact ⟨0, _, rfl, Nat.zero_add _, HW6, HG6, HB6, HK6, HCR, ⟨fun k' hk' y => by
     rw [HWT6.out k' hk' y]
     simp⟩⟩
    case round =>
     clear HW6 HG6 HB6 HK6 HCR HWT6
     obtain ⟨j, L, rfl, hjk, HW, HG, HB, HK, HCR, HWT⟩ := hrel
     by_cases hj : j < row.length
     ·obtain ⟨k2, rfl⟩ : ∃ k2, gk = k2 + 1 := ⟨gk - 1, by omega⟩
      obtain ⟨ak, ea, hkc⟩ := at_int HCR.out j hj
      cases ea
      obtain ⟨x, hx⟩ : ∃ x, x = row.getD j 0 := ⟨_, rfl⟩
      rw [← hx] at hkc
      have hxr : row[j] = x := by rw [hx, getD_at row 0 hj]
      obtain ⟨q0, q1⟩ := inR_iff.mp (HRI.out x (by rw [← hxr]; exact List.getElem_mem hj))
      have hq2 : x < (kn.length : Int) := by have := HLN.out; omega
      obtain ⟨ad2, ea2, hz0⟩ := Kd.at_int (HF.out _ HK.out).2 x q0 hq2
      cases ea2
      obtain ⟨y, hy⟩ : ∃ y, y = kn.getD x.toNat 0 := ⟨_, rfl⟩
      rw [show rd kn x = y from hy.symm] at hz0
      have HY := Aside0.mk hy
      have htk : row.take (j + 1) = row.take j ++ [x] := by rw [List.take_succ_eq_append_getElem hj, hxr]
      by_cases hyk : y = kk
      ·have hb1 : (y != kk) = false := by simp [hyk]
       have HN9 : Aside0 (∀ k' ∈ (ks ++ [kk]), ∀ y, y ∈ L k' ↔ waitsP rows kn i k' y ∨ (k' = kk ∧ ∃ x ∈ row.take (j + 1), kn.getD x.toNat 0 = y ∧ y ≠ kk)) := ⟨fun k' hk' z => by
        rw [HWT.out k' hk' z, htk]
        constructor
        ·rintro (h | ⟨h1, x', h2, h3⟩)
         ·exact .inl h
         ·exact .inr ⟨h1, x', List.mem_append_left _ h2, h3⟩
        ·rintro (h | ⟨h1, x', h2, h3, h4⟩)
         ·exact .inl h
         ·rcases List.mem_append.mp h2 with h2 | h2
          ·exact .inr ⟨h1, x', h2, h3, h4⟩
          ·rw [List.mem_singleton.mp h2, ← HY.out] at h3
           exact absurd (h3.symm.trans hyk) h4⟩
       obtain ⟨y0, y1, y2, _⟩ := bk3 HG.out
       clear hx hxr hy hyk htk HWT
       go_wp2
       go_roundg k2
       case measure => omega
       case rel => exact ⟨j + 1, L, by go_num, by omega, HW, HG, HB, HK, HCR, HN9⟩
      ·have hb1 : (y != kk) = true := by simp [hyk]
       obtain ⟨b, hmb, hSb, hlb, hnb⟩ := HW.out.inner kk HMEM.out
       have hgt : (getG none (ks ++ [kk]) (setF m kk (some bq)) kk) = some b := by unfold getG; rw [if_pos HMEM.out]; exact hmb
       have hyw : (Lit.int .i64 y).wf = true := by
        have h := inR_iff.mp (HKN.out y (by rw [hy, getD_at _ _ (by omega)]; exact List.getElem_mem _))
        have := HLN2.out
        unfold LIMS at this
        exact wf_int h.1 (by omega)
       have hlen : (L kk).length < maxLen := by
        have h1 := len_le_sub (r := 0 :: kn) hSb.nodup (fun z hz => by
         rcases (HWT.out kk HMEM.out z).mp hz with ⟨i', hi', _, x', _, h, _⟩ | ⟨_, x', hx', h, _⟩
         ·rw [← h]; exact getD_in _ _
         ·rw [← h]; exact getD_in _ _)
        have t1 := HLN2.out; have t2 := HLN.out
        rw [List.length_cons] at h1
        unfold LIMS at t1; unfold maxLen; omega
       have HCX : Aside0 (∀ w', Below wr.heap.size wr w' → w'.cell? (ad1.add x.toNat) = some (.int .i64 y)) := ⟨fun w' hb => pw_cell_below hb hz0⟩
       have HLK : Aside0 (∀ w', Below wr.heap.size wr w' → (Instr.lookup 79 (.map (some bl)) (.int .i64 kk) false).run Try.prog w' = .ok (.map (some b)) w') := ⟨fun w' hb => by
        rw [MapG.lookup (HW.out.below hb).map Try.underlying79 HKW.out, hgt]⟩
       obtain ⟨w5, hrun5, hS5, hg5⟩ := (SI.below hSb (below_drew (Below.refl wr.heap.size wr))).update (w := wr.drew) hlen hyw
       obtain ⟨es, cl, hmp⟩ := MapG.is_map hSb
       have HW5 := Aside0.mk ((HW.out.below (below_drew (Below.refl _ _))).turn HMEM.out hmb hS5 hg5)
       have HG5 := Aside0.mk (blk_grown (blk_drew HG.out) hg5 (fun e => by injection e with e; rw [← e, HG.out] at hmp; cases hmp))
       have HB5 := Aside0.mk ((below_drew HB.out).grown hg5 HB.out.size (fun k hk => by injection hk with hk; rw [← hk]; exact Nat.le_trans HWW.out hlb))
       have HK5 := Aside0.mk (Kept.of_grown hg5 HK.out.drew (fun k hk => by injection hk with hk; rw [← hk]; exact .inr hlb))
       have HCR5 : Aside0 ((Kd.int .i64).C w5 (some ak) row.length row) := ⟨C_int_move HCR.out (fun k ⟨cs, t, f, hc⟩ => hg5.block k (by exact (Array.getElem?_eq_some_iff.1 hc).1) (fun e => by injection e with e; rw [e, hmp] at hc; cases hc))⟩
       have HN9 : Aside0 (∀ k' ∈ (ks ++ [kk]), ∀ z, z ∈ setF L kk (addK (L kk) y) k' ↔ waitsP rows kn i k' z ∨ (k' = kk ∧ ∃ x ∈ row.take (j + 1), kn.getD x.toNat 0 = z ∧ z ≠ kk)) := ⟨fun k' hk' z => by
        rw [htk]
        unfold setF
        by_cases e : k' = kk
        ·rw [if_pos e, addK_mem, HWT.out kk HMEM.out z, e]
         constructor
         ·rintro ((h | ⟨h1, x', h2, h3⟩) | h)
          ·exact .inl h
          ·exact .inr ⟨rfl, x', List.mem_append_left _ h2, h3⟩
          ·exact .inr ⟨rfl, x, List.mem_append_right _ (by simp), by rw [h, HY.out], by rw [h]; exact hyk⟩
         ·rintro (h | ⟨h1, x', h2, h3, h4⟩)
          ·exact .inl (.inl h)
          ·rcases List.mem_append.mp h2 with h2 | h2
           ·exact .inl (.inr ⟨rfl, x', h2, h3, h4⟩)
           ·rw [List.mem_singleton.mp h2, ← HY.out] at h3
            exact .inr h3.symm
        ·rw [if_neg e, HWT.out k' hk' z]
         constructor
         ·rintro (h | ⟨h1, _⟩)
          ·exact .inl h
          ·exact absurd h1 e
         ·rintro (h | ⟨h1, _⟩)
          ·exact .inl h
          ·exact absurd h1 e⟩
       obtain ⟨y0, y1, y2, _⟩ := bk3 HG.out
       clear hx hxr hy hyk htk HWT hSb hlb hnb hgt hmb hS5 hg5 hyw hlen HY hmp
       go_upto_region 10 with fail
       clear y0 y1 y2 hz0 hkc hb1
       refine start_ (n := 14) (S := fun w' => Below wr.heap.size wr w') (ds := [13]) (tf 0 14) (by kernel_rfl) rfl rfl ((below_drew1 (Below.refl _ _))) (fun hHeld => ?_)
       refine with_tabW waits_at.tab10 waits_at.bits10 (fun HT_ HW_ => ?_)
       refine pure_ (i := 0) (N := some 54) (v := ?_) (a' := ?_) (tf 1 13) rfl rfl (any_of HT_.out (by kernel_rfl)) (fun _ _ _ h => h) (Or.inl ⟨by rfl, ?_⟩) ?_ ?_
       rotate_left
       ·intro w'
        go_simp
        with_reducible rfl
       rotate_left
       ·simp only [Act.put, List.setIfInBounds_toArray, List.set_cons_zero, List.set_cons_succ, i64_w, i32_w]
        rfl
       refine pure_ (i := 1) (N := some 55) (v := ?_) (a' := ?_) (tf 2 12) rfl rfl (any_of HT_.out (by kernel_rfl)) (fun _ _ _ h => h) (Or.inl ⟨by rfl, ?_⟩) ?_ ?_
       rotate_left
       ·intro w'
        go_simp
        with_reducible rfl
       rotate_left
       ·simp only [Act.put, List.setIfInBounds_toArray, List.set_cons_zero, List.set_cons_succ, i64_w, i32_w]
        rfl
       refine pure_ (i := 2) (N := some 56) (v := ?_) (a' := ?_) (tf 3 11) rfl rfl (any_of HT_.out (by kernel_rfl)) (fun _ _ _ h => h) (Or.inl ⟨by rfl, ?_⟩) ?_ ?_
       rotate_left
       ·intro w'
        go_simp
        with_reducible rfl
       rotate_left
       ·simp only [Act.put, List.setIfInBounds_toArray, List.set_cons_zero, List.set_cons_succ, i64_w, i32_w]
        rfl
       refine pure_ (i := 4) (N := some 58) (v := ?_) (a' := ?_) #[true, true, true, false, true, false, false, false, false, false, false, false, false, false] rfl rfl (any_of HT_.out (by kernel_rfl)) (fun _ _ _ h => h) (Or.inl ⟨by rfl, ?_⟩) ?_ ?_
       rotate_left
       ·intro w'
        go_simp
        with_reducible rfl
       rotate_left
       ·simp only [Act.put, List.setIfInBounds_toArray, List.set_cons_zero, List.set_cons_succ, i64_w, i32_w]
        rfl
       refine pure_ (i := 6) (N := some 60) (v := ?_) (a' := ?_) #[true, true, true, false, true, false, true, false, false, false, false, false, false, false] rfl rfl (any_of HT_.out (by kernel_rfl)) (fun _ _ _ h => h) (Or.inl ⟨by rfl, ?_⟩) ?_ ?_
       rotate_left
       ·intro w'
        go_simp
        with_reducible rfl
       rotate_left
       ·simp only [Act.put, List.setIfInBounds_toArray, List.set_cons_zero, List.set_cons_succ, i64_w, i32_w]
        rfl
       refine pure_ (i := 7) (N := some 61) (v := ?_) (a' := ?_) #[true, true, true, false, true, false, true, true, false, false, false, false, false, false] rfl rfl (any_of HT_.out (by kernel_rfl)) (fun _ _ _ h => h) (Or.inl ⟨by rfl, ?_⟩) ?_ ?_
       rotate_left
       ·intro w'
        go_simp
        with_reducible rfl
       rotate_left
       ·simp only [Act.put, List.setIfInBounds_toArray, List.set_cons_zero, List.set_cons_succ, i64_w, i32_w]
        rfl
       refine pure_ (i := 8) (N := some 62) (v := ?_) (a' := ?_) #[true, true, true, false, true, false, true, true, true, false, false, false, false, false] rfl rfl (any_of HT_.out (by kernel_rfl)) (fun _ _ _ h => h) (Or.inl ⟨by rfl, ?_⟩) ?_ ?_
       rotate_left
       ·intro w'
        go_simp
        with_reducible rfl
       rotate_left
       ·simp only [Act.put, List.setIfInBounds_toArray, List.set_cons_zero, List.set_cons_succ, i64_w, i32_w]
        rfl
       refine pure_ (i := 10) (N := some 64) (v := ?_) (a' := ?_) #[true, true, true, false, true, false, true, true, true, false, true, false, false, false] rfl rfl (any_of HT_.out (by kernel_rfl)) (fun _ _ _ h => h) (Or.inl ⟨by rfl, ?_⟩) ?_ ?_
       rotate_left
       ·intro w'
        go_simp
        with_reducible rfl
       rotate_left
       ·simp only [Act.put, List.setIfInBounds_toArray, List.set_cons_zero, List.set_cons_succ, i64_w, i32_w]
        rfl
       refine take_ (i := 3) (N := some 57) (v := ?_) (a' := ?_) #[true, true, true, true, true, false, true, true, true, false, true, false, false, false] rfl rfl (take_ofW HT_.out HW_.out (by kernel_rfl)) (fun _ _ _ h => h) (Or.inl ⟨by rfl, ?_⟩) hHeld ?_ ?_
       rotate_left
       ·intro w' s0
        obtain ⟨y0, y1, y2, _⟩ := bk3 (blk_below HG.out s0)
        go_simp
        with_reducible rfl
       rotate_left
       ·simp only [Act.put, List.setIfInBounds_toArray, List.set_cons_zero, List.set_cons_succ, i64_w, i32_w]
        rfl
       refine take_ (i := 5) (N := some 59) (v := ?_) (a' := ?_) #[true, true, true, true, true, true, true, true, true, false, true, false, false, false] rfl rfl (take_ofW HT_.out HW_.out (by kernel_rfl)) (fun _ _ _ h => h) (Or.inl ⟨by rfl, ?_⟩) hHeld ?_ ?_
       rotate_left
       ·intro w' s0
        have x9 := HLK.out w' s0
        go_simp
        with_reducible rfl
       rotate_left
       ·simp only [Act.put, List.setIfInBounds_toArray, List.set_cons_zero, List.set_cons_succ, i64_w, i32_w]
        rfl
       refine take_ (i := 9) (N := some 63) (v := ?_) (a' := ?_) (tf 11 3) rfl rfl (take_ofW HT_.out HW_.out (by kernel_rfl)) (fun _ _ _ h => h) (Or.inl ⟨by rfl, ?_⟩) hHeld ?_ ?_
       rotate_left
       ·intro w' s0
        obtain ⟨y0, y1, y2, _⟩ := bk3 (blk_below HG.out s0)
        go_simp
        with_reducible rfl
       rotate_left
       ·simp only [Act.put, List.setIfInBounds_toArray, List.set_cons_zero, List.set_cons_succ, i64_w, i32_w]
        rfl
       refine pure_ (i := 11) (N := some 65) (v := ?_) (a' := ?_) (tf 12 2) rfl rfl (any_of HT_.out (by kernel_rfl)) (fun _ _ _ h => h) (Or.inl ⟨by rfl, ?_⟩) ?_ ?_
       rotate_left
       ·intro w'
        go_simp
        with_reducible rfl
       rotate_left
       ·simp only [Act.put, List.setIfInBounds_toArray, List.set_cons_zero, List.set_cons_succ, i64_w, i32_w]
        rfl
       refine take_ (i := 12) (N := some 66) (v := ?_) (a' := ?_) (tf 13 1) rfl rfl (take_ofW HT_.out HW_.out (by kernel_rfl)) (fun _ _ _ h => h) (Or.inl ⟨by rfl, ?_⟩) hHeld ?_ ?_
       rotate_left
       ·intro w' s0
        have x9 := HCX.out w' s0
        go_simp
        with_reducible rfl
       rotate_left
       ·simp only [Act.put, List.setIfInBounds_toArray, List.set_cons_zero, List.set_cons_succ, i64_w, i32_w]
        rfl
       refine last_ (i := 13) (N := none) (tf 14 0) rfl rfl (one_of HT_.out (by kernel_rfl)) (by decide) (fun K hK => ?_)
       refine skip_ (w1 := w5) (by rfl) rfl ?_ ?_
       ·go_simp
       refine hK.out _ _ ?_
       clear hK K
       refine done_ (done_of HT_.out (by kernel_rfl)) ?_
       go_wp2
       go_roundg k2
       case measure => omega
       case rel => exact ⟨j + 1, _, by go_num, by omega, HW5, HG5, HB5, HK5, HCR5, HN9⟩
     ·have hje : j = row.length := by omega
      have HN9 : Aside0 (∀ k' ∈ (ks ++ [kk]), ∀ y, y ∈ L k' ↔ waitsP rows kn (i + 1) k' y) := ⟨fun k' hk' y => by
       rw [HWT.out k' hk' y, hje, List.take_length, waits_succ, HRW.out, HKK.out]⟩
      clear hje HWT
      go_wp2
      go_roundg k1
      case measure => omega
      case rel => exact ⟨i + 1, _, _, _, by go_num, by omega, HG, HW, HB, HK, HKS9, HN9⟩
  ·have hie : i = kn.length := by omega
   have hks := HKS.out
   have hwt := HWT.out
   rw [hie] at hwt
   rw [hie, List.take_length] at hks
   have HKS9 := Aside0.mk hks; have HWT9 := Aside0.mk hwt
   clear hks hwt hie HKS HWT
   go_wp2
   go_end0
   exact ⟨rfl, bl, ks, m, L, HG.out, HW.out, HB.out, HK.out, HKS9.out, HWT9.out⟩
def waitsL (rows : List (List Int)) (kn : List Int) (k : Int) : List Int := ((List.range kn.length).map (fun i => if kn.getD i 0 = k then ((rows.getD i []).map (fun x => kn.getD x.toNat 0)).filter (fun y => !decide (y = k)) else [])).flatten
theorem waitsL_mem {rows : List (List Int)} {kn : List Int} {k y : Int} : y ∈ waitsL rows kn k ↔ waitsP rows kn kn.length k y := by
 unfold waitsL
 rw [List.mem_flatten]
 constructor
 ·rintro ⟨l, hl, hy⟩
  obtain ⟨i, hi, rfl⟩ := List.mem_map.mp hl
  rw [List.mem_range] at hi
  split at hy
  ·rename_i e
   obtain ⟨h1, h2⟩ := List.mem_filter.mp hy
   obtain ⟨x, hx, rfl⟩ := List.mem_map.mp h1
   exact ⟨i, hi, e, x, hx, rfl, by simpa using h2⟩
  ·cases hy
 ·rintro ⟨i, hi, e, x, hx, h1, h2⟩
  refine ⟨_, List.mem_map.mpr ⟨i, List.mem_range.mpr hi, rfl⟩, ?_⟩
  rw [if_pos e]
  exact List.mem_filter.mpr ⟨List.mem_map.mpr ⟨x, hx, h1⟩, by simpa using h2⟩
/-- The least knot that could be next. -/
def cand (rows : List (List Int)) (kn D : List Int) : Option Int := (upI kn).find? (fun k => !D.contains k && (waitsL rows kn k).all (fun y => D.contains y))
def knotsG (rows : List (List Int)) (kn : List Int) : Nat → List Int → List (List Int)
 | 0, _ => []
 | n + 1, D => match cand rows kn D with
  | none => []
  | some k => ofL kn k :: knotsG rows kn n (D ++ [k])
theorem find_least {p : Int → Bool} {k : Int} : ∀ {r : List Int}, r.Pairwise (· < ·) → k ∈ r → p k = true → (∀ y ∈ r, p y = true → k ≤ y) → r.find? p = some k
 | [], _, h, _, _ => (nomatch h)
 | x :: r, hs, hk, hp, hl => by
  obtain ⟨h1, h2⟩ := List.pairwise_cons.mp hs
  rw [List.find?_cons]
  cases hx : p x with
  | true =>
   have := hl x (by simp) hx
   rcases List.mem_cons.mp hk with e | e
   ·rw [e]
   ·have := h1 k e; omega
  | false =>
   rcases List.mem_cons.mp hk with e | e
   ·rw [e, hx] at hp; cases hp
   ·exact find_least h2 e hp (fun y hy => hl y (by simp [hy]))
/-- Whether a knot could be next. -/
def Free (rows : List (List Int)) (kn D : List Int) (x : Int) : Prop := x ∈ kn ∧ x ∉ D ∧ ∀ y, waitsP rows kn kn.length x y → y ∈ D
section
variable {rows : List (List Int)} {kn D l : List Int}
theorem free_iff {x : Int} (hx : x ∈ upI kn) : (!D.contains x && (waitsL rows kn x).all (fun y => D.contains y)) = true ↔ Free rows kn D x := by
 rw [Bool.and_eq_true, Bool.not_eq_true', List.all_eq_true]
 constructor
 ·rintro ⟨h1, h2⟩
  refine ⟨(upI_mem x kn).mp hx, fun h => ?_, fun y hy => List.contains_iff_mem.mp (h2 y (waitsL_mem.mpr hy))⟩
  rw [List.contains_iff_mem.mpr h] at h1; cases h1
 ·rintro ⟨_, h1, h2⟩
  refine ⟨?_, fun y hy => List.contains_iff_mem.mpr (h2 y (waitsL_mem.mp hy))⟩
  rw [← Bool.not_eq_true, List.contains_iff_mem]; exact h1
theorem cand_none (h : ∀ x, ¬ Free rows kn D x) : cand rows kn D = none := by
 unfold cand
 rw [List.find?_eq_none]
 intro x hx hp
 exact h x ((free_iff hx).mp hp)
theorem cand_some {k : Int} (hk : Free rows kn D k) (hl : ∀ x, Free rows kn D x → k ≤ x) : cand rows kn D = some k := by
 unfold cand
 have hm := (upI_mem k kn).mpr hk.1
 exact find_least (upI_up kn) hm ((free_iff hm).mpr hk) (fun y hy hp => hl y ((free_iff hy).mp hp))
theorem knotsG_none (h : ∀ x, ¬ Free rows kn D x) : ∀ n, knotsG rows kn n D = []
 | 0 => rfl
 | n + 1 => by unfold knotsG; rw [cand_none h]
theorem knotsG_some {k : Int} {n : Nat} (hk : Free rows kn D k) (hl : ∀ x, Free rows kn D x → k ≤ x) : knotsG rows kn (n + 1) D = ofL kn k :: knotsG rows kn n (D ++ [k]) := by
 show (match cand rows kn D with | none => [] | some k => ofL kn k :: knotsG rows kn n (D ++ [k])) = _
 rw [cand_some hk hl]
end
theorem waits_ne {rows : List (List Int)} {kn : List Int} {n : Nat} {k y : Int} (h : waitsP rows kn n k y) : y ≠ k := by
 obtain ⟨_, _, _, _, _, _, h⟩ := h; exact h
/-- Who could be next, while x is struck from the sets of those that are done. -/
def Half (rows : List (List Int)) (kn D : List Int) (x : Int) (done : List Int) (z : Int) : Prop := z ∈ kn ∧ z ∉ D ∧ z ≠ x ∧ ∀ y, waitsP rows kn kn.length z y → y ∈ D ∨ (z ∈ done ∧ y = x)
section
variable {rows : List (List Int)} {kn D done : List Int} {x z : Int}
theorem half_start (y : Int) : Half rows kn D x [] y ↔ Free rows kn D y ∧ y ≠ x := by
 constructor
 ·rintro ⟨h1, h2, h3, h4⟩
  exact ⟨⟨h1, h2, fun u hu => (h4 u hu).elim id (fun h => (nomatch h.1))⟩, h3⟩
 ·rintro ⟨⟨h1, h2, h3⟩, h4⟩
  exact ⟨h1, h2, h4, fun u hu => .inl (h3 u hu)⟩
theorem half_other {y : Int} (hy : y ≠ z) : Half rows kn D x (done ++ [z]) y ↔ Half rows kn D x done y := by
 unfold Half
 rw [List.mem_append, List.mem_singleton]
 constructor
 ·rintro ⟨h1, h2, h3, h4⟩
  exact ⟨h1, h2, h3, fun u hu => (h4 u hu).imp id (fun h => ⟨h.1.resolve_right hy, h.2⟩)⟩
 ·rintro ⟨h1, h2, h3, h4⟩
  exact ⟨h1, h2, h3, fun u hu => (h4 u hu).imp id (fun h => ⟨.inl h.1, h.2⟩)⟩
theorem half_skip (hn : ¬ waitsP rows kn kn.length z x) (y : Int) : Half rows kn D x (done ++ [z]) y ↔ Half rows kn D x done y := by
 by_cases e : y = z
 ·subst e
  constructor
  ·rintro ⟨h1, h2, h3, h4⟩
   exact ⟨h1, h2, h3, fun u hu => .inl ((h4 u hu).resolve_right (fun h => hn (by rw [← h.2]; exact hu)))⟩
  ·rintro ⟨h1, h2, h3, h4⟩
   exact ⟨h1, h2, h3, fun u hu => .inl ((h4 u hu).resolve_right (fun h => hn (by rw [← h.2]; exact hu)))⟩
 ·exact half_other e
theorem half_more {u : Int} (hu : waitsP rows kn kn.length z u) (h1 : u ∉ D) (h2 : u ≠ x) (y : Int) : Half rows kn D x (done ++ [z]) y ↔ Half rows kn D x done y := by
 by_cases e : y = z
 ·subst e
  constructor
  ·rintro ⟨_, _, _, h4⟩
   rcases h4 u hu with h | h
   ·exact absurd h h1
   ·exact absurd h.2 h2
  ·rintro ⟨_, _, _, h4⟩
   rcases h4 u hu with h | h
   ·exact absurd h h1
   ·exact absurd h.2 h2
 ·exact half_other e
theorem half_push (hz : z ∈ kn) (hzD : z ∉ D) (hzx : z ≠ x) (hall : ∀ y, waitsP rows kn kn.length z y → y ∈ D ∨ y = x) (y : Int) : Half rows kn D x (done ++ [z]) y ↔ y = z ∨ (y ≠ z ∧ Half rows kn D x done y) := by
 by_cases e : y = z
 ·subst e
  refine ⟨fun _ => .inl rfl, fun _ => ⟨hz, hzD, hzx, fun u hu => (hall u hu).imp id (fun h => ⟨by simp, h⟩)⟩⟩
 ·rw [half_other e]
  exact ⟨fun h => .inr ⟨e, h⟩, fun h => h.elim (fun h => absurd h e) (fun h => h.2)⟩
theorem half_not (hx : waitsP rows kn kn.length z x) (hxD : x ∉ D) (hzd : z ∉ done) : ¬ Half rows kn D x done z := by
 rintro ⟨_, _, _, h4⟩
 rcases h4 x hx with h | h
 ·exact hxD h
 ·exact hzd h.1
theorem half_end (hd : ∀ y, y ∈ kn → y ∈ done) (y : Int) : Half rows kn D x done y ↔ Free rows kn (D ++ [x]) y := by
 unfold Half Free
 rw [List.mem_append, List.mem_singleton]
 constructor
 ·rintro ⟨h1, h2, h3, h4⟩
  exact ⟨h1, fun h => h.elim h2 h3, fun u hu => by
   rw [List.mem_append, List.mem_singleton]
   exact (h4 u hu).imp id (fun h => h.2)⟩
 ·rintro ⟨h1, h2, h3⟩
  exact ⟨h1, fun h => h2 (.inl h), fun h => h2 (.inr h), fun u hu => by
   have := h3 u hu
   rw [List.mem_append, List.mem_singleton] at this
   exact this.imp id (fun h => ⟨hd y h1, h⟩)⟩
end
theorem leastS_in {rows : List (List Int)} {n : Nat} {i : Int} : ∀ (l : List Int) (m : Int), inR n m = true → (∀ x ∈ l, inR n x = true) → inR n (l.foldl (leastS rows i) m) = true
 | [], m, h, _ => h
 | x :: l, m, h, hl => by
  rw [List.foldl_cons]
  refine leastS_in l _ ?_ (fun y hy => hl y (by simp [hy]))
  unfold leastS
  split
  ·split
   ·exact hl x (by simp)
   ·exact h
  ·exact h
theorem knP_in {rows : List (List Int)} {n : Nat} (hin : ∀ r ∈ rows, ∀ x ∈ r, inR n x = true) (hl : rows.length = n) : ∀ x ∈ knP rows n, inR n x = true := by
 intro x hx
 obtain ⟨i, hi, rfl⟩ := List.mem_map.mp hx
 rw [List.mem_range] at hi
 refine leastS_in _ _ (inR_iff.mpr ⟨by omega, by omega⟩) ?_
 rw [getD_at _ _ (by omega)]
 exact hin _ (List.getElem_mem _)
def scc_Knots.f (l0_0 : List (S150)) (l0_1 : List (S152)) (l0_2 : List (S26)) : Option (List (List Int)) :=
 if l0_2.length ≤ 1000 then (rowsTo (scc_Comes.f l0_0 l0_1 l0_2) l0_2.length).map (fun rows => knotsG rows (knP rows l0_2.length) l0_2.length []) else none
/-- Blocks that the rounds may turn: the sets. -/
def TMs (ks : List Int) (m : Int → Option Nat) : Nat → Prop := fun k => ∃ x ∈ ks, m x = some k
theorem HpA.cells {w : World} {base g : Nat} {v : Value} {l : List Int} (h : HpA w base g v l) : ∀ k, TurnH g v k → ∃ cs t f, w.heap[k]? = some (Obj.cells cs t f) := by
 rintro k (rfl | hk)
 ·exact ⟨_, _, _, h.blk⟩
 ·obtain ⟨cs, hc⟩ := Kd.R_typed h.row k hk.symm
  exact ⟨_, _, _, hc⟩
theorem run_keptT {W W1 : World} {bl q : Nat} {ks done : List Int} {m : Int → Option Nat} {T : Nat → Prop} (h : RunG iK mE W bl q ks m done) (hk : Kept W W1 T) (hT : ∀ k, T k → ∃ cs t f, W.heap[k]? = some (Obj.cells cs t f)) : RunG iK mE W1 bl q ks m done ∧ W1.rangeLeft bl q = W.rangeLeft bl q := by
 have e1 : W1.heap[bl]? = W.heap[bl]? := hk.2 bl h.map.lt (fun ht => by
  obtain ⟨cs, t, f, hc⟩ := hT bl ht
  exact h.map.ne_cells hc rfl)
 have e2 : W1.heap[q]? = W.heap[q]? := hk.2 q h.lt (fun ht => by
  obtain ⟨cs, t, f, hc⟩ := hT q ht
  exact h.ne_cells hc rfl)
 exact ⟨h.move e1 e2, by unfold World.rangeLeft; rw [e1, e2]⟩
theorem wst_keptT {W W1 : World} {w0 bl : Nat} {ks : List Int} {m : Int → Option Nat} {L : Int → List Int} {T : Nat → Prop} (h : WSt W w0 bl ks m L) (hk : Kept W W1 T) (hT : ∀ k, T k → ∃ cs t f, W.heap[k]? = some (Obj.cells cs t f)) : WSt W1 w0 bl ks m L := h.kept hk (fun k es c he ht => by
 obtain ⟨cs, t, f, hc⟩ := hT k ht
 rw [he] at hc; cases hc)
theorem hpa_q {W W1 : World} {base g bl q : Nat} {v : Value} {l : List Int} {ks done : List Int} {m : Int → Option Nat} (h : HpA W base g v l) (hr : RunG iK mE W bl q ks m done) (hg : W.grownBy W1 (some q)) : HpA W1 base g v l :=
 ⟨blk_grown h.blk hg (fun e => by injection e with e; exact hr.ne_cells h.blk e.symm), Kd.R_mono (Kd.R_grown (Kd.R_tight rfl h.row) hg (fun k hk e => by
  obtain ⟨cs, hc⟩ := Kd.R_typed h.row k hk.symm
  injection e with e
  exact hr.ne_cells hc e.symm)) (fun _ _ => trivial), h.low⟩
theorem wst_q {W W1 : World} {w0 bl q : Nat} {ks done : List Int} {m : Int → Option Nat} {L : Int → List Int} (h : WSt W w0 bl ks m L) (hr : RunG iK mE W bl q ks m done) (hg : W.grownBy W1 (some q)) : WSt W1 w0 bl ks m L := h.move (fun k ⟨es, c, he⟩ => hg.block k (Array.getElem?_eq_some_iff.1 he).1 (fun e => by
 injection e with e
 obtain ⟨_, _, _, hi⟩ := hr.iter
 rw [← e, he] at hi; cases hi))
theorem hpa_map {W W1 : World} {base g b : Nat} {v : Value} {l : List Int} {s : List Int} (h : HpA W base g v l) (hs : SI W b s) (hg : W.grownBy W1 (some b)) : HpA W1 base g v l :=
 ⟨blk_grown h.blk hg (fun e => by injection e with e; exact hs.ne_cells h.blk e.symm), Kd.R_mono (Kd.R_grown (Kd.R_tight rfl h.row) hg (fun k hk e => by
  obtain ⟨cs, hc⟩ := Kd.R_typed h.row k hk.symm
  injection e with e
  exact hs.ne_cells hc e.symm)) (fun _ _ => trivial), h.low⟩
theorem run_map {W W1 : World} {bl q b : Nat} {ks done s : List Int} {m : Int → Option Nat} (h : RunG iK mE W bl q ks m done) (hs : SI W b s) (hne : b ≠ bl) (hg : W.grownBy W1 (some b)) : RunG iK mE W1 bl q ks m done ∧ W1.rangeLeft bl q = W.rangeLeft bl q := by
 have e1 : W1.heap[bl]? = W.heap[bl]? := hg.block bl h.map.lt (fun e => hne (by injection e with e; exact e.symm))
 have e2 : W1.heap[q]? = W.heap[q]? := hg.block q h.lt (fun e => by
  injection e with e
  obtain ⟨_, _, _, hi⟩ := h.iter
  obtain ⟨es, c, hm⟩ := MapG.is_map hs
  rw [e, hm] at hi; cases hi)
 exact ⟨h.move e1 e2, by unfold World.rangeLeft; rw [e1, e2]⟩
set_option maxRecDepth 100000 in
set_option maxHeartbeats 8000000 in
theorem knots_all {A0 A1 A2 : Option Addr} {c0 c1 c2 : Nat} {l0 : List S150} {l1 : List S152} {l2 : List S26} (r : List (List Int)) (w : World) (hp : PAt w A0 c0 l0 A1 c1 l1 A2 c2 l2) (h : scc_Knots.f l0 l1 l2 = some r) :
  Calls Try.prog 35 #[.agg #[.slice A0 l0.length c0, .slice A1 l1.length c1, .slice A2 l2.length c2]] w fun e w' => ∃ v0_ : Value, e = .returned (v0_) ∧ Kd.S (Kd.slice 3 (Kd.int .i64)) 34 w' w.heap.size (fun _ => True) v0_ r ∧ Below w.heap.size w w' := by
 unfold scc_Knots.f at h
 split at h
 case isFalse => cases h
 rename_i hn
 obtain ⟨rows, hrows, hr⟩ := Option.map_eq_some_iff.mp h
 have HTOT := Aside0.mk hr
 have HPW := Aside0.mk hp; have HN := Aside0.mk hn; have HROWS := Aside0.mk hrows
 clear h hr
 have HB0 := Aside0.mk (below_alloc (below_alloc (Below.refl w.heap.size w) (.cells #[.slice A0 l0.length c0, .slice A1 l1.length c1, .slice A2 l2.length c2] 48)) (.cells #[.slice none 0 0, .slice none 0 0, .map none] 81))
 have HG0 : Aside0 (((w.alloc (.cells #[.slice A0 l0.length c0, .slice A1 l1.length c1, .slice A2 l2.length c2] 48)).alloc (.cells #[.slice none 0 0, .slice none 0 0, .map none] 81)).heap[w.heap.size + 1]? = some (.cells #[.slice none 0 0, .slice none 0 0, .map none] 81 (0, 0))) := ⟨by
  have := blk_new (w.alloc (.cells #[.slice A0 l0.length c0, .slice A1 l1.length c1, .slice A2 l2.length c2] 48)) (.cells #[.slice none 0 0, .slice none 0 0, .map none] 81)
  rw [World.size_alloc] at this
  exact this⟩
 have HBX : Aside0 (((w.alloc (.cells #[.slice A0 l0.length c0, .slice A1 l1.length c1, .slice A2 l2.length c2] 48)).alloc (.cells #[.slice none 0 0, .slice none 0 0, .map none] 81)).heap[w.heap.size]? = some (.cells #[.slice A0 l0.length c0, .slice A1 l1.length c1, .slice A2 l2.length c2] 48 (0, 0))) := ⟨blk_alloc (blk_new _ _) _⟩
 clear hp hn
 go_enter Try.func35, Try.ntmps35
 go_upto_region 2 with fail
 generalize (w.alloc (.cells #[.slice A0 l0.length c0, .slice A1 l1.length c1, .slice A2 l2.length c2] 48)).alloc (.cells #[.slice none 0 0, .slice none 0 0, .map none] 81) = W0 at HB0 HG0 HBX ⊢
 obtain ⟨gt, hgt⟩ : ∃ gt, gt = w.heap.size + 1 := ⟨_, rfl⟩
 rw [← hgt] at HG0 ⊢
 have HLOW : Aside0 (w.heap.size ≤ gt) := ⟨by omega⟩
 clear hgt
 have ks := bk3 HBX.out
 go_wp2_with fail
 refine (knots_at HPW.out HB0.out HG0.out HLOW.out HROWS.out (by have := HN.out; unfold LIMS; omega)).mono ?_
 rintro e w1 ⟨rfl, B0, d0, B1, d1, hg1, hb1, hf1⟩
 obtain ⟨kn, hkn⟩ : ∃ kn, kn = knP rows l2.length := ⟨_, rfl⟩
 have hknl : kn.length = l2.length := by rw [hkn, knP_len]
 have hrl := rowsTo_len HROWS.out
 have hin : ∀ r ∈ rows, ∀ x ∈ r, inR rows.length x = true := fun r hr x hx => by
  obtain ⟨i, hi, rfl⟩ := List.mem_iff_getElem.mp hr
  have h1 := rowsTo_at HROWS.out (i := i) (by omega)
  rw [getD_at _ _ hi] at h1
  rw [hrl]
  exact comes_in h1 x hx
 have hknin : ∀ x ∈ kn, inR rows.length x = true := by rw [hkn, hrl]; exact knP_in (by rw [hrl] at hin; exact hin) hrl
 have HKN := Aside0.mk hknin
 rw [← hkn] at HTOT
 have hw := waits_at (w := w) (W := w1) (gt := gt) (B0 := B0) (B1 := B1) (d0 := d0) (d1 := d1) (rows := rows) (kn := kn) (by rw [hknl]; exact hg1) hb1 HLOW.out (by rw [hknl, hkn]; exact hf1) (by omega) (by have := HN.out; unfold LIMS; omega) hin hknin
 have HF := Aside0.mk hf1; have HL1 := Aside0.mk hknl; have HL2 := Aside0.mk hrl; have HKE := Aside0.mk hkn; have HS1 := Aside0.mk hb1.size
 clear hg1 hb1 hf1 hkn hknl hrl hin hknin ks HBX HG0 HB0
 go_wp2_with fail
 refine hw.mono ?_
 rintro e w2 ⟨rfl, bl, ks, m, L, hg2, hw2, hb2, hk2, hks, hwt⟩
 clear hw
 have HKS := Aside0.mk hks
 have hgtl := blk_lt hg2
 have HKNF : Aside0 (∀ W, Kept w2 W (TMs ks m) → (Kd.int .i64).C W B1 kn.length kn) := ⟨fun W hk => by
  have h1 := (HF.out w2 hk2).2
  rw [← HKE.out, ← HL1.out] at h1
  exact C_int_move h1 (fun k ⟨cs, t, f, hc⟩ => hk.2 k (Array.getElem?_eq_some_iff.1 hc).1 (by
   rintro ⟨x, hx, he⟩
   obtain ⟨b, q1, q2, _⟩ := hw2.inner x hx
   rw [he] at q1; injection q1 with q1
   subst q1
   exact q2.ne_cells hc rfl))⟩
 have HGF : Aside0 (∀ W, Kept w2 W (TMs ks m) → W.heap[gt]? = some (.cells #[.slice B0 rows.length d0, .slice B1 kn.length d1, .map (some bl)] 81 (0, 0))) := ⟨fun W hk => (hk.2 gt hgtl (by
  rintro ⟨x, hx, he⟩
  obtain ⟨b, q1, q2, _⟩ := hw2.inner x hx
  rw [he] at q1; injection q1 with q1
  subst q1
  exact q2.ne_cells hg2 rfl)).trans hg2⟩
 have HB3 := Aside0.mk (below_alloc hb2 (.cells #[.slice none 0 0] 86))
 have HW3 := Aside0.mk (hw2.alloc (.cells #[.slice none 0 0] 86))
 have HK3 : Aside0 (Kept w2 (w2.alloc (.cells #[.slice none 0 0] 86)) (TMs ks m)) := ⟨(Kept.refl w2 _).alloc _⟩
 have HH3 : Aside0 (HpA (w2.alloc (.cells #[.slice none 0 0] 86)) w.heap.size w2.heap.size (.slice none 0 0) []) := ⟨⟨blk_new _ _, Kd.R_nil _ _ _ _ _, hb2.size⟩⟩
 have HWT := Aside0.mk hwt
 clear hg2 hw2 hb2 hk2 hks hwt hgtl
 go_upto_region 5 with fail
 generalize w2.alloc (.cells #[.slice none 0 0] 86) = w3 at HB3 HW3 HK3 HH3 ⊢
 obtain ⟨g, hg⟩ : ∃ g, g = w2.heap.size := ⟨_, rfl⟩
 rw [← hg] at HH3 ⊢
 have HGG := Aside0.mk hg
 clear hg
 obtain ⟨y0, y1, y2, _⟩ := bk3 (HGF.out _ HK3.out)
 go_wp2_with (at_range; refine RunG.start_op HW3.out.map rfl (.tmp 23) rfl Try.underlying79 rfl ?_)
 clear y0 y1 y2
 intro w4 hr4 hb4
 have HR4 := Aside0.mk hr4
 have HB4 := Aside0.mk (below_step HB3.out hb4)
 have HW4 := Aside0.mk (HW3.out.below hb4)
 have HK4 := Aside0.mk (HK3.out.below hb4)
 have HH4 := Aside0.mk (HH3.out.below hb4)
 have HQ1 : Aside0 (w2.heap.size ≤ w3.heap.size) := ⟨HK3.out.1⟩
 have HQ2 : Aside0 (w.heap.size ≤ w3.heap.size) := ⟨HB3.out.size⟩
 have HKL : Aside0 (ks.length ≤ 1000) := ⟨by
  have h1 := len_le_sub HW3.out.map.nodup (fun z hz => (HKS.out z).mp hz)
  have := HL1.out; have := HN.out; omega⟩
 clear hr4 hb4 HB3 HW3 HK3 HH3
 generalize w3.heap.size = q at HQ1 HQ2 HR4 ⊢
 go_wp2_with fail
 go_loopw [5, 6] (fun _ _ wr => ∃ (done l : List Int) (v : Value), Aside0 (RunG iK mE wr bl q ks m done) ∧ Aside0 (WSt wr w1.heap.size bl ks m L) ∧ Aside0 (HpA wr w.heap.size g v l) ∧ Aside0 (IsHeap l.length (fnL l)) ∧ Aside0 (l.Nodup) ∧ Aside0 (∀ x, x ∈ l ↔ x ∈ done ∧ ∀ y, ¬ waitsP rows kn kn.length x y) ∧ Aside0 (∀ x ∈ done, x ∈ ks) ∧ Aside0 (∀ k, v.ownBlock = some k → w2.heap.size ≤ k) ∧ Aside0 (Below w.heap.size w wr) ∧ Aside0 (Kept w2 wr (TMs ks m))) (fun _ _ wr => wr.rangeLeft bl q)
 case atStart => exact ⟨[], [], _, HR4, HW4, HH4, ⟨fun k h0 hk => absurd hk (by simp)⟩, ⟨List.nodup_nil⟩, ⟨fun x => by simp⟩, ⟨fun x hx => (nomatch hx)⟩, ⟨fun k hk => (nomatch hk)⟩, HB4, HK4⟩
 case round =>
  clear HR4 HW4 HH4 HB4 HK4
  obtain ⟨done, l, v, HR, HW, HH, HHP, HND, HMM, HDN, HOW, HB, HK⟩ := hrel
  have HLL : Aside0 (l.length ≤ 100000) := ⟨by
   have h1 := len_le_sub HND.out (fun z hz => HDN.out z ((HMM.out z).mp hz).1)
   have := HKL.out; omega⟩
  go_wp2_with (at_next; refine RunG.next_op HR.out rfl (.tmp 24) rfl rfl ?_ ?_)
  ·intro hperm
   have HFR : Aside0 (∀ x, x ∈ l ↔ Free rows kn [] x) := ⟨fun x => by
    rw [HMM.out x, hperm.mem_iff, HKS.out x]
    exact ⟨fun h => ⟨h.1, by simp, fun y hy => absurd hy (h.2 y)⟩, fun h => ⟨h.1, fun y hy => (nomatch h.2.2 y hy)⟩⟩⟩
   have HWT0 : Aside0 (∀ k ∈ ks, ∀ y, y ∈ L k ↔ waitsP rows kn kn.length k y ∧ y ∉ ([] : List Int)) := ⟨fun k hk y => by rw [HWT.out k hk y]; simp⟩
   clear hperm HMM HR HDN HLL
   go_wp2_with fail
   go_loopg [7, 8, 9, 10] l2.length (fun kq v7 _ _ _ wr => ∃ (D l : List Int) (outs : List (List Int)) (v : Value) (L : Int → List Int), Aside0 (outs ++ knotsG rows kn kq D = r ∧ outs.length = D.length) ∧ kq + D.length = l2.length ∧ Aside0 (D.Nodup) ∧ Aside0 (∀ d ∈ D, d ∈ ks ∧ ∀ y, waitsP rows kn kn.length d y → y ∈ D) ∧ Aside0 (HpA wr w.heap.size g v l) ∧ Aside0 (IsHeap l.length (fnL l)) ∧ Aside0 (l.Nodup) ∧ Aside0 (∀ x, x ∈ l ↔ Free rows kn D x) ∧ Aside0 (WSt wr w1.heap.size bl ks m L) ∧ Aside0 (∀ k ∈ ks, ∀ y, y ∈ L k ↔ waitsP rows kn kn.length k y ∧ y ∉ D) ∧ Aside0 (Kd.S (Kd.slice 3 (Kd.int .i64)) 34 wr w.heap.size (fun k => w2.heap.size ≤ k ∧ k ≠ g ∧ some k ≠ v.ownBlock) v7 outs) ∧ Aside0 (∀ k, v.ownBlock = some k → w2.heap.size ≤ k) ∧ Aside0 (Below w.heap.size w wr) ∧ Aside0 (Kept w2 wr (TMs ks m)))
   case atStart => exact ⟨[], l, [], v, L, ⟨⟨HTOT.out, rfl⟩⟩, Nat.add_zero _, ⟨List.nodup_nil⟩, ⟨fun d hd => (nomatch hd)⟩, HH, HHP, HND, HFR, HW, HWT0, ⟨Kd.S_nil _ _ _ _ _⟩, HOW, HB, HK⟩
   case round =>
    clear HH HHP HND HFR HW HWT0 HOW HB HK HTOT
    obtain ⟨D, l, outs, v, L, HTOT, hkd, HDN, HDW, HH, HHP, HND, HFR, HW, HWD, HS, HOW, HB, HK⟩ := hrel
    have HLL : Aside0 (l.length ≤ 1000) := ⟨by
     have h1 := len_le_sub HND.out (fun z hz => (HKS.out z).mpr ((HFR.out z).mp hz).1)
     have := HKL.out; omega⟩
    obtain ⟨Av, cv, hv⟩ := Kd.R_slice HH.out.row
    subst hv
    obtain ⟨y0, _⟩ := bk1 HH.out.blk
    have hlm : l.length ≤ 9223372036854775807 := by have := HLL.out; omega
    go_wp2_with fail
    refine (len_at _ _ _ wr).mono ?_
    rintro e w5 ⟨rfl, hd5⟩
    have HH5 := Aside0.mk (HH.out.below hd5); have HW5 := Aside0.mk (HW.out.below hd5); have HS5 := Aside0.mk (Kd.S_below HS.out hd5); have HB5 := Aside0.mk (below_step HB.out hd5); have HK5 := Aside0.mk (HK.out.below hd5)
    clear hd5 HH HW HS HB HK y0
    by_cases hp : 0 < l.length
    ·have hd0 : decide (0 < l.length) = true := decide_eq_true hp
     have HP := Aside0.mk hp
     clear hp
     go_wp2_with fail
     refine (pop_at HB5.out HH5.out (by have := HLL.out; omega) HHP.out HP.out).mono ?_
     rintro e w6 ⟨x, v6, l6, rfl, hpm, hmin, hhp6, hh6, hb6, hk6, ho6⟩
     have hxl : x ∈ l := hpm.mem_iff.mpr (by simp)
     have hfx := (HFR.out x).mp hxl
     obtain ⟨kq, hkq⟩ : ∃ kq, gk = kq + 1 := ⟨gk - 1, by
      have h1 := len_le_sub (l := D ++ [x]) (r := ks) (List.nodup_append.mpr ⟨HDN.out, by simp, fun a ha c hc e => hfx.2.1 (by rw [List.mem_singleton] at hc; rw [← hc, ← e]; exact ha)⟩) (fun z hz => by
       rcases List.mem_append.mp hz with hz | hz
       ·exact (HDW.out z hz).1
       ·rw [List.mem_singleton.mp hz]; exact (HKS.out x).mpr hfx.1)
      have h2 := len_le_sub HW5.out.map.nodup (fun z hz => (HKS.out z).mp hz)
      have := HL1.out
      rw [List.length_append, List.length_singleton] at h1
      omega⟩
     subst hkq
     have HOL : Aside0 (outs.length = D.length ∧ outs.length ≤ 1000) := ⟨HTOT.out.2, by have := HTOT.out.2; have := HN.out; omega⟩
     have HTOT6 : Aside0 ((outs ++ [ofL kn x]) ++ knotsG rows kn kq (D ++ [x]) = r) := ⟨by
      have := HTOT.out.1
      rw [knotsG_some hfx (fun y hy => hmin y ((HFR.out y).mpr hy))] at this
      rw [List.append_assoc]; exact this⟩
     have HX := Aside0.mk hfx
     have hT := HpA.cells HH5.out
     have hTT : ∀ k, TurnH g (.slice Av l.length cv) k → w2.heap.size ≤ k := fun k hk => hk.elim (fun e => by have := HGG.out; omega) (fun e => HOW.out k e.symm)
     have HW6 := Aside0.mk (wst_keptT HW5.out hk6 hT)
     have HK6 := Aside0.mk (HK5.out.then_ hk6 (fun k hk => .inr (hTT k hk)))
     have HOW6 : Aside0 (∀ k, v6.ownBlock = some k → w2.heap.size ≤ k) := ⟨fun k hk => ho6.elim (fun e => HOW.out k (by rw [← e]; exact hk)) (fun e => Nat.le_trans HK5.out.1 (e k hk))⟩
     have HS6 : Aside0 (Kd.S (Kd.slice 3 (Kd.int .i64)) 34 w6 w.heap.size (fun k => w2.heap.size ≤ k ∧ k ≠ g ∧ some k ≠ v6.ownBlock) u7 outs) := ⟨Kd.S_mono (Kd.S_kept (Kd.S_bound HS5.out) hk6 (fun k hk ht => ht.elim (fun e => hk.1.2.1 e) (fun e => hk.1.2.2 e))) (fun k hk => ⟨hk.1.1, hk.1.2.1, fun e => ho6.elim (fun e2 => hk.1.2.2 (by rw [e, e2])) (fun e2 => by have := e2 k e.symm; have := hk.2.2.1; omega)⟩)⟩
     have hndx := hpm.nodup_iff.mp HND.out
     have HN6 : Aside0 (l6.Nodup) := ⟨(List.nodup_cons.mp hndx).2⟩
     have HM6 : Aside0 (∀ y, y ∈ l6 ↔ Free rows kn D y ∧ y ≠ x) := ⟨fun y => by
      rw [← HFR.out y, hpm.mem_iff, List.mem_cons]
      constructor
      ·intro h; exact ⟨.inr h, fun e => (List.nodup_cons.mp hndx).1 (by rw [← e]; exact h)⟩
      ·rintro ⟨h | h, h2⟩
       ·exact absurd h h2
       ·exact h⟩
     have HHP6 := Aside0.mk hhp6; have HH6 := Aside0.mk hh6; have HB6 := Aside0.mk hb6
     have hta := assert_int x
     clear hpm hmin hhp6 hh6 hb6 hk6 ho6 hT hTT hndx hxl hfx HTOT HW5 HK5 HB5 HH5 HS5 HND HHP HFR HOW
     go_wp2_with fail
     refine (of_at x (HGF.out w6 HK6.out) (HKNF.out w6 HK6.out) (by have := HL1.out; have := HN.out; unfold LIMS; omega)).mono ?_
     rintro e w7 ⟨vo, rfl, hro, hb7⟩
     obtain ⟨Ao, co, hvo⟩ := Kd.R_slice hro
     subst hvo
     obtain ⟨rw_, hrw⟩ : ∃ rw_, rw_ = ofL kn x := ⟨_, rfl⟩
     rw [← hrw] at hro HTOT6 ⊢
     have HRO := Aside0.mk hro
     have HSZ := Aside0.mk hb7.size
     have HW26 : Aside0 (w2.heap.size ≤ w6.heap.size) := ⟨HK6.out.1⟩
     have HQ3 : Aside0 (w.heap.size ≤ w6.heap.size) := ⟨HB6.out.size⟩
     have HW7 := Aside0.mk (HW6.out.below hb7); have HK7 := Aside0.mk (HK6.out.below hb7); have HB7 := Aside0.mk (below_step HB6.out hb7); have HH7 := Aside0.mk (HH6.out.below hb7)
     have HS7 := Aside0.mk (Kd.S_below (Kd.S_bound HS6.out) hb7)
     have HGL : Aside0 (g < w6.heap.size) := ⟨blk_lt HH6.out.blk⟩
     have HVL : Aside0 (∀ k, v6.ownBlock = some k → k < w6.heap.size) := ⟨fun k hk => Kd.R_lt HH6.out.row k hk⟩
     have HUL : Aside0 (∀ k, u7.ownBlock = some k → k < w6.heap.size) := ⟨fun k hk => Kd.S_lt HS6.out k hk⟩
     clear hro hb7 hrw HW6 HK6 HB6 HH6 HS6 hta
     go_wp2_with (at_builtin; refine Kd.S_append (Kd.slice 3 (Kd.int .i64)) (w0 := w) w.heap.size rfl (.tmp 48) (.tmp 52) 29 34 (.slice none 0 0) 24 rfl Try.underlying29 info34 rfl (by decide) (by decide) u7 outs rw_ [.slice Ao rw_.length co] (fun k => w2.heap.size ≤ k ∧ k ≠ g ∧ some k ≠ v6.ownBlock) (fun k => some k = (Value.slice Ao rw_.length co).ownBlock) rfl rfl ?aP ?aK ?aF ?aO HB7.out HB7.out.size ?aL ?_)
     case aP => exact ⟨_, rfl, Kd.R_tight rfl (Kd.R_lower HRO.out (by have := HB7.out.size; have := HSZ.out; exact HQ3.out))⟩
     case aK =>
      exact fun k hk => by
       have h1 : w6.heap.size ≤ k := Kd.R_base HRO.out k hk.symm
       exact ⟨⟨Nat.le_trans HW26.out h1, fun e => by have := HGL.out; omega, fun e => by have := HVL.out k e.symm; omega⟩, fun e => by have := HUL.out k e.symm; omega⟩
     case aF =>
      exact fun k hk => by
       have h1 := HSZ.out
       exact ⟨Nat.le_trans HW26.out (by omega), fun e => by have := HGL.out; omega, fun e => by have := HVL.out k e.symm; omega⟩
     case aO => exact Kd.S_mono HS7.out (fun k hk => ⟨hk.1, fun e => by have h1 : w6.heap.size ≤ k := Kd.R_base HRO.out k e.symm; have := hk.2.2.1; omega⟩)
     case aL => have := HOL.out; omega
     intro v8 w8 hS8 hb8 hg8 hat8
     have hS7 : Kd.S (Kd.slice 3 (Kd.int .i64)) 34 w7 w.heap.size _ u7 outs := HS7.out
     have HS8 := Aside0.mk hS8; have HB8 := Aside0.mk hb8
     have HH8 : Aside0 (HpA w8 w.heap.size g v6 l6) := ⟨⟨blk_grown HH7.out.blk hg8 (Kd.S_ne hS7 HH7.out.blk (by decide)), Kd.R_over' HH7.out.row (Kd.S_typed hS7) (by decide) hg8, HH7.out.low⟩⟩
     have HW8 : Aside0 (WSt w8 w1.heap.size bl ks m L) := ⟨HW7.out.move (fun k ⟨es, c, he⟩ => hg8.block k (Array.getElem?_eq_some_iff.1 he).1 (fun e => by
      obtain ⟨cs, hc⟩ := Kd.S_typed hS7 k e.symm
      rw [he] at hc; cases hc))⟩
     have HK8 := Aside0.mk (Kept.of_grown hg8 HK7.out (fun k hk => .inr ((Kd.S_R hS7).1 k hk).1.1))
     clear hS8 hb8 hg8 hat8 hS7 HS7 HB7 HH7 HW7 HK7 HRO HSZ HGL HVL HUL
     obtain ⟨y0, y1, y2, _⟩ := bk3 (HGF.out _ HK8.out)
     go_wp2_with (at_range; refine RunG.start_op HW8.out.map rfl (.tmp 57) rfl Try.underlying79 rfl ?_)
     clear y0 y1 y2
     intro w9 hr9 hb9
     have HR9 := Aside0.mk hr9
     have HB9 := Aside0.mk (below_step HB8.out hb9)
     have HW9 := Aside0.mk (HW8.out.below hb9)
     have HK9 := Aside0.mk (HK8.out.below hb9)
     have HH9 := Aside0.mk (HH8.out.below hb9)
     have HS9 := Aside0.mk (Kd.S_below HS8.out hb9)
     have HQ8 : Aside0 (w2.heap.size ≤ w8.heap.size) := ⟨HK8.out.1⟩
     have HQ9 : Aside0 (w.heap.size ≤ w8.heap.size) := ⟨HB8.out.size⟩
     clear hr9 hb9 HB8 HW8 HK8 HH8 HS8
     generalize w8.heap.size = qq at HQ8 HQ9 HR9 ⊢
     go_wp2_with fail
     go_loopw [9, 10] (fun _ _ wr => ∃ (done l : List Int) (v : Value) (L : Int → List Int), Aside0 (RunG iK mE wr bl qq ks m done) ∧ Aside0 (WSt wr w1.heap.size bl ks m L) ∧ Aside0 (∀ k ∈ ks, ∀ y, y ∈ L k ↔ waitsP rows kn kn.length k y ∧ y ∉ D ∧ (k ∈ done → y ≠ x)) ∧ Aside0 (HpA wr w.heap.size g v l) ∧ Aside0 (IsHeap l.length (fnL l)) ∧ Aside0 (l.Nodup) ∧ Aside0 (∀ z, z ∈ l ↔ Half rows kn D x done z) ∧ Aside0 (∀ z ∈ done, z ∈ ks) ∧ Aside0 (Kd.S (Kd.slice 3 (Kd.int .i64)) 34 wr w.heap.size (fun k => w2.heap.size ≤ k ∧ k ≠ g ∧ some k ≠ v.ownBlock) v8 (outs ++ [rw_])) ∧ Aside0 (∀ k, v.ownBlock = some k → w2.heap.size ≤ k) ∧ Aside0 (Below w.heap.size w wr) ∧ Aside0 (Kept w2 wr (TMs ks m))) (fun _ _ wr => wr.rangeLeft bl qq)
     case atStart => exact ⟨[], l6, v6, L, HR9, HW9, ⟨fun k hk y => by rw [HWD.out k hk y]; simp⟩, HH9, HHP6, HN6, ⟨fun z => by rw [HM6.out z, half_start]⟩, ⟨fun z hz => (nomatch hz)⟩, HS9, HOW6, HB9, HK9⟩
     case round =>
      clear HR9 HW9 HWD HH9 HHP6 HN6 HM6 HS9 HOW6 HB9 HK9
      obtain ⟨done, l, v, L, HR, HW, HWD, HH, HHP, HND, HMM, HDK, HS, HOW, HB, HK⟩ := hrel
      have HLL : Aside0 (l.length ≤ 100000) := ⟨by
       have h1 := len_le_sub HND.out (fun z hz => (HKS.out z).mpr ((HMM.out z).mp hz).1)
       have := HKL.out; omega⟩
      go_wp2_with (at_next; refine RunG.next_op HR.out rfl (.tmp 58) rfl rfl ?_ ?_)
      ·intro hperm
       have hall : ∀ y, y ∈ kn → y ∈ done := fun y hy => hperm.mem_iff.mpr ((HKS.out y).mpr hy)
       have HF9 : Aside0 (∀ z, z ∈ l ↔ Free rows kn (D ++ [x]) z) := ⟨fun z => by rw [HMM.out z, half_end hall]⟩
       have HWD9 : Aside0 (∀ k ∈ ks, ∀ y, y ∈ L k ↔ waitsP rows kn kn.length k y ∧ y ∉ D ++ [x]) := ⟨fun k hk y => by
        rw [HWD.out k hk y, List.mem_append, List.mem_singleton]
        constructor
        ·rintro ⟨h1, h2, h3⟩
         exact ⟨h1, fun h => h.elim h2 (h3 (hperm.mem_iff.mpr hk))⟩
        ·rintro ⟨h1, h2⟩
         exact ⟨h1, fun h => h2 (.inl h), fun _ h => h2 (.inr h)⟩⟩
       have HDN9 : Aside0 ((D ++ [x]).Nodup) := ⟨List.nodup_append.mpr ⟨HDN.out, by simp, fun a ha c hc e => HX.out.2.1 (by rw [List.mem_singleton] at hc; rw [← hc, ← e]; exact ha)⟩⟩
       have HDW9 : Aside0 (∀ d ∈ D ++ [x], d ∈ ks ∧ ∀ y, waitsP rows kn kn.length d y → y ∈ D ++ [x]) := ⟨fun d hd => by
        rcases List.mem_append.mp hd with hd | hd
        ·exact ⟨(HDW.out d hd).1, fun y hy => List.mem_append_left _ ((HDW.out d hd).2 y hy)⟩
        ·rw [List.mem_singleton.mp hd]
         exact ⟨(HKS.out x).mpr HX.out.1, fun y hy => List.mem_append_left _ (HX.out.2.2 y hy)⟩⟩
       have HT9 : Aside0 ((outs ++ [rw_]) ++ knotsG rows kn kq (D ++ [x]) = r ∧ (outs ++ [rw_]).length = (D ++ [x]).length) := ⟨HTOT6.out, by have := HOL.out.1; simp; omega⟩
       have hkd9 : kq + (D ++ [x]).length = l2.length := by rw [List.length_append, List.length_singleton]; omega
       clear hperm hall HMM HWD HLL HR HDK
       go_wp2
       go_roundg kq
       case measure => omega
       case rel => exact ⟨D ++ [x], l, outs ++ [rw_], v, L, HT9, hkd9, HDN9, HDW9, HH, HHP, HND, HF9, HW, HWD9, HS, HOW, HB, HK⟩
      ·intro z w5 hz hzn hlen hr5 hg5 hsz hlt hen
       obtain ⟨b, hmb, hSb, hlb, hnb⟩ := (wst_q HW.out HR.out hg5).inner z hz
       rw [hmb] at hen ⊢
       have hxw : (Lit.int .i64 x).wf = true := by
        have h := inR_iff.mp (HKN.out x HX.out.1)
        have := HL2.out; have := HN.out
        exact wf_int h.1 (by omega)
       have HR5 := Aside0.mk hr5
       have HW5 := Aside0.mk (wst_q HW.out HR.out hg5)
       have HH5 := Aside0.mk (hpa_q HH.out HR.out hg5)
       have HS5 := Aside0.mk (Kd.S_mono (Kd.S_grown (Kd.S_bound HS.out) hg5 (fun k hk e => by
        injection e with e
        obtain ⟨_, _, cs, hc⟩ := hk.2.2.2
        exact HR.out.ne_cells hc e.symm)) (fun k hk => hk.1))
       have HB5 := Aside0.mk (HB.out.grown hg5 HB.out.size (fun k hk => by injection hk with hk; have := HQ9.out; omega))
       have HK5 := Aside0.mk (Kept.of_grown hg5 HK.out (fun k hk => by injection hk with hk; have := HQ8.out; exact .inr (by omega)))
       have HLT := Aside0.mk hlt
       have HDN5 : Aside0 (∀ y ∈ done ++ [z], y ∈ ks) := ⟨fun y hy => (List.mem_append.mp hy).elim (HDK.out y) (fun e => by rw [List.mem_singleton.mp e]; exact hz)⟩
       have HZ := Aside0.mk hz; have HZN := Aside0.mk hzn; have HSB := Aside0.mk hSb; have HXW := Aside0.mk hxw; have HMB := Aside0.mk hmb; have HNB := Aside0.mk hnb
       have HBLW : Aside0 (w.heap.size ≤ b) := ⟨Nat.le_trans HS1.out hlb⟩
       clear hlb hnb hr5 hg5 hsz hlt HR HW HH HS HB HK hmb hlen HDK
       by_cases hxz : x ∈ L z
       ·have hwz := ((HWD.out z hz x).mp hxz).1
        have hlk := hSb.lookup hxw (q := true) (decide_eq_true hxz)
        have HWZ := Aside0.mk hwz
        clear hSb hxw hz hzn hxz hwz
        go_wp2_with (at_delete; refine SI.delete_op HSB.out rfl (.tmp 67) (.tmp 68) rfl rfl x rfl HXW.out ?_)
        intro w6 hS6 hg6 hsz6
        have hln := fun ty => hS6.len ty
        obtain ⟨hr6, hleft⟩ := run_map HR5.out HSB.out HNB.out hg6
        have HR6 := Aside0.mk hr6
        have HW6 := Aside0.mk (HW5.out.turn HZ.out HMB.out hS6 hg6)
        have HH6 := Aside0.mk (hpa_map HH5.out HSB.out hg6)
        have HS6 := Aside0.mk (Kd.S_mono (Kd.S_grown (Kd.S_bound HS5.out) hg6 (fun k hk e => by
         injection e with e
         obtain ⟨_, _, cs, hc⟩ := hk.2.2.2
         exact HSB.out.ne_cells hc e.symm)) (fun k hk => hk.1))
        have HB6 := Aside0.mk (HB5.out.grown hg6 HB5.out.size (fun k hk => by injection hk with hk; have := HBLW.out; omega))
        have HK6 := Aside0.mk (Kept.of_grown hg6 HK5.out (fun k hk => by injection hk with hk; exact .inl ⟨z, HZ.out, by rw [← hk]; exact HMB.out⟩))
        have HLT6 : Aside0 (w6.rangeLeft bl qq < wr.rangeLeft bl qq) := ⟨by rw [hleft]; exact HLT.out⟩
        have HWD6 : Aside0 (∀ k ∈ ks, ∀ y, y ∈ setF L z (strike (L z) x) k ↔ waitsP rows kn kn.length k y ∧ y ∉ D ∧ (k ∈ done ++ [z] → y ≠ x)) := ⟨fun k hk y => by
         unfold setF
         by_cases e : k = z
         ·rw [if_pos e, strike_mem, HWD.out z HZ.out y, e]
          exact ⟨fun h => ⟨h.1.1, h.1.2.1, fun _ => h.2⟩, fun h => ⟨⟨h.1, h.2.1, fun hd => absurd hd HZN.out⟩, h.2.2 (by simp)⟩⟩
         ·rw [if_neg e, HWD.out k hk y, List.mem_append, List.mem_singleton]
          exact ⟨fun h => ⟨h.1, h.2.1, fun hd => h.2.2 (hd.resolve_right e)⟩, fun h => ⟨h.1, h.2.1, fun hd => h.2.2 (.inl hd)⟩⟩⟩
        clear hS6 hg6 hsz6 hr6 hleft hlk HR5 HW5 HH5 HS5 HB5 HK5 HLT
        by_cases hz0 : (strike (L z) x).length = 0
        ·have hzb : (((strike (L z) x).length : Int) == 0) = true := by simp [hz0]
         have hall : ∀ y, waitsP rows kn kn.length z y → y ∈ D ∨ y = x := fun y hy => by
          by_cases hyd : y ∈ D
          ·exact .inl hyd
          ·refine .inr (Classical.byContradiction (fun hne => ?_))
           have h1 : y ∈ strike (L z) x := (strike_mem _ _ _).mpr ⟨(HWD.out z HZ.out y).mpr ⟨hy, hyd, fun hd => absurd hd HZN.out⟩, hne⟩
           rw [List.eq_nil_of_length_eq_zero hz0] at h1; cases h1
         have hzD : z ∉ D := fun h => HX.out.2.1 ((HDW.out z h).2 x HWZ.out)
         have hnh := half_not (done := done) HWZ.out HX.out.2.1 HZN.out
         have HM6 : Aside0 (∀ y, y ∈ z :: l ↔ Half rows kn D x (done ++ [z]) y) := ⟨fun y => by
          rw [half_push ((HKS.out z).mp HZ.out) hzD (fun e => waits_ne HWZ.out e.symm) hall, List.mem_cons, HMM.out y]
          constructor
          ·rintro (h | h)
           ·exact .inl h
           ·exact .inr ⟨fun e => hnh (by rw [← e]; exact h), h⟩
          ·rintro (h | h)
           ·exact .inl h
           ·exact .inr h.2⟩
         have HN6 : Aside0 ((z :: l).Nodup) := ⟨List.nodup_cons.mpr ⟨fun h => hnh ((HMM.out z).mp h), HND.out⟩⟩
         rw [hz0] at hln
         clear hz0 hzb hall hzD hnh HMM HND HWD
         go_wp2_with fail
         refine (push_at z HB6.out HH6.out HLL.out HHP.out).mono ?_
         rintro e w7 ⟨rfl, v7, l7, hpm, hhp7, hh7, hb7, hk7, ho7⟩
         have hT := HpA.cells HH6.out
         obtain ⟨hr7, hleft⟩ := run_keptT HR6.out hk7 hT
         have HR7 := Aside0.mk hr7; have HW7 := Aside0.mk (wst_keptT HW6.out hk7 hT)
         have HK7 := Aside0.mk (HK6.out.then_ hk7 (fun k hk => .inr (hk.elim (fun e => by have := HGG.out; omega) (fun e => HOW.out k e.symm))))
         have HOW7 : Aside0 (∀ k, v7.ownBlock = some k → w2.heap.size ≤ k) := ⟨fun k hk => ho7.elim (fun e => HOW.out k (by rw [← e]; exact hk)) (fun e => Nat.le_trans HK6.out.1 (e k hk))⟩
         have HS7 : Aside0 (Kd.S (Kd.slice 3 (Kd.int .i64)) 34 w7 w.heap.size (fun k => w2.heap.size ≤ k ∧ k ≠ g ∧ some k ≠ v7.ownBlock) v8 (outs ++ [rw_])) := ⟨Kd.S_mono (Kd.S_kept (Kd.S_bound HS6.out) hk7 (fun k hk ht => ht.elim (fun e => hk.1.2.1 e) (fun e => hk.1.2.2 e))) (fun k hk => ⟨hk.1.1, hk.1.2.1, fun e => ho7.elim (fun e2 => hk.1.2.2 (by rw [e, e2])) (fun e2 => by have := e2 k e.symm; have := hk.2.2.1; omega)⟩)⟩
         have HLT7 : Aside0 (w7.rangeLeft bl qq < wr.rangeLeft bl qq) := ⟨by rw [hleft]; exact HLT6.out⟩
         have HM7 : Aside0 (∀ y, y ∈ l7 ↔ Half rows kn D x (done ++ [z]) y) := ⟨fun y => by rw [hpm.mem_iff]; exact HM6.out y⟩
         have HN7 : Aside0 (l7.Nodup) := ⟨hpm.nodup_iff.mpr HN6.out⟩
         have HHP7 := Aside0.mk hhp7; have HH7 := Aside0.mk hh7; have HB7 := Aside0.mk hb7
         clear hpm hhp7 hh7 hb7 hk7 ho7 hT hr7 hleft hen hln
         go_wp2
         go_roundw
         case rel => exact ⟨done ++ [z], l7, v7, _, HR7, HW7, HWD6, HH7, HHP7, HN7, HM7, HDN5, HS7, HOW7, HB7, HK7⟩
         case measure => exact HLT7.out
        ·have hzb : (((strike (L z) x).length : Int) == 0) = false := beq_eq_false_iff_ne.mpr (fun e => hz0 (by omega))
         have HM6 : Aside0 (∀ y, y ∈ l ↔ Half rows kn D x (done ++ [z]) y) := ⟨fun y => by
          obtain ⟨u, hu⟩ := List.exists_mem_of_length_pos (show 0 < (strike (L z) x).length by omega)
          obtain ⟨h1, h2⟩ := (strike_mem _ _ _).mp hu
          obtain ⟨h3, h4, _⟩ := (HWD.out z HZ.out u).mp h1
          rw [half_more h3 h4 h2, HMM.out y]⟩
         clear hz0 HMM HWD
         go_wp2
         go_roundw
         case rel => exact ⟨done ++ [z], l, v, _, HR6, HW6, HWD6, HH6, HHP, HND, HM6, HDN5, HS6, HOW, HB6, HK6⟩
         case measure => exact HLT6.out
       ·have hlk := hSb.lookup hxw (q := false) (decide_eq_false hxz)
        have hnw : ¬ waitsP rows kn kn.length z x := fun h => hxz ((HWD.out z hz x).mpr ⟨h, HX.out.2.1, fun hd => absurd hd hzn⟩)
        have HM6 : Aside0 (∀ y, y ∈ l ↔ Half rows kn D x (done ++ [z]) y) := ⟨fun y => by rw [half_skip hnw, HMM.out y]⟩
        have HWD6 : Aside0 (∀ k ∈ ks, ∀ y, y ∈ L k ↔ waitsP rows kn kn.length k y ∧ y ∉ D ∧ (k ∈ done ++ [z] → y ≠ x)) := ⟨fun k hk y => by
         rw [HWD.out k hk y, List.mem_append, List.mem_singleton]
         exact ⟨fun h => ⟨h.1, h.2.1, fun hd => hd.elim h.2.2 (fun e e2 => hnw (by rw [← e, ← e2]; exact h.1))⟩, fun h => ⟨h.1, h.2.1, fun hd => h.2.2 (.inl hd)⟩⟩⟩
        clear hSb hxw hz hzn hxz hnw HMM HWD
        go_wp2
        go_roundw
        case rel => exact ⟨done ++ [z], l, v, L, HR5, HW5, HWD6, HH5, HHP, HND, HM6, HDN5, HS5, HOW, HB5, HK5⟩
        case measure => exact HLT.out
    ·have hd0 : decide (0 < l.length) = false := decide_eq_false hp
     have hnf : ∀ x, ¬ Free rows kn D x := fun x hx => by
      have := (HFR.out x).mpr hx
      rw [List.eq_nil_of_length_eq_zero (show l.length = 0 by omega)] at this; cases this
     have HEND : Aside0 (outs = r) := ⟨by have := HTOT.out.1; rwa [knotsG_none hnf, List.append_nil] at this⟩
     have h0 : l.length = 0 := by omega
     clear hp hnf hd0
     rw [h0]
     clear h0 hlm
     go_wp2
     go_ret
     exact ⟨_, rfl, by rw [← HEND.out]; exact Kd.S_mono HS5.out (fun _ _ => trivial), HB5.out⟩
  ·intro x w5 hx hxn hlen hr5 hg5 hsz hlt hen
   obtain ⟨b, hmb, hSb, hlb, hnb⟩ := (wst_q HW.out HR.out hg5).inner x hx
   rw [hmb] at hen ⊢
   have hln := fun ty => hSb.len ty
   have HR5 := Aside0.mk hr5
   have HW5 := Aside0.mk (wst_q HW.out HR.out hg5)
   have HH5 := Aside0.mk (hpa_q HH.out HR.out hg5)
   have HB5 := Aside0.mk (HB.out.grown hg5 HB.out.size (fun k hk => by injection hk with hk; have := HQ2.out; omega))
   have HK5 := Aside0.mk (Kept.of_grown hg5 HK.out (fun k hk => by injection hk with hk; have := HQ1.out; exact .inr (by omega)))
   have HLT := Aside0.mk hlt
   have HDN5 : Aside0 (∀ y ∈ done ++ [x], y ∈ ks) := ⟨fun y hy => (List.mem_append.mp hy).elim (HDN.out y) (fun e => by rw [List.mem_singleton.mp e]; exact hx)⟩
   have HX := Aside0.mk hx; have HXN := Aside0.mk hxn
   clear hSb hlb hnb hr5 hg5 hsz hlt HR HW HH HB HK hmb hxn hlen hx
   by_cases hz : (L x).length = 0
   ·have hzb : ((L x).length : Int) == 0 := by simp [hz]
    have hzb2 : (((L x).length : Int) == 0) = true := hzb
    have hnw : ∀ y, ¬ waitsP rows kn kn.length x y := fun y hy => by
     have := (HWT.out x HX.out y).mpr hy
     rw [List.eq_nil_of_length_eq_zero hz] at this; cases this
    have HM5 : Aside0 (∀ y, y ∈ x :: l ↔ y ∈ done ++ [x] ∧ ∀ z, ¬ waitsP rows kn kn.length y z) := ⟨fun y => by
     rw [List.mem_cons, HMM.out y, List.mem_append, List.mem_singleton]
     constructor
     ·rintro (rfl | ⟨h1, h2⟩)
      ·exact ⟨.inr rfl, hnw⟩
      ·exact ⟨.inl h1, h2⟩
     ·rintro ⟨h1 | h1, h2⟩
      ·exact .inr ⟨h1, h2⟩
      ·exact .inl h1⟩
    have HN5 : Aside0 ((x :: l).Nodup) := ⟨List.nodup_cons.mpr ⟨fun h => HXN.out ((HMM.out x).mp h).1, HND.out⟩⟩
    rw [hz] at hln
    clear hz hzb hnw HMM HND HXN hzb2
    go_wp2_with fail
    refine (push_at x HB5.out HH5.out HLL.out HHP.out).mono ?_
    rintro e w6 ⟨rfl, v6, l6, hpm, hhp6, hh6, hb6, hk6, ho6⟩
    have hT := HpA.cells HH5.out
    obtain ⟨hr6, hleft⟩ := run_keptT HR5.out hk6 hT
    have HR6 := Aside0.mk hr6; have HW6 := Aside0.mk (wst_keptT HW5.out hk6 hT)
    have HK6 := Aside0.mk (HK5.out.then_ hk6 (fun k hk => .inr (hk.elim (fun e => by have := HGG.out; omega) (fun e => HOW.out k e.symm))))
    have HOW6 : Aside0 (∀ k, v6.ownBlock = some k → w2.heap.size ≤ k) := ⟨fun k hk => ho6.elim (fun e => HOW.out k (by rw [← e]; exact hk)) (fun e => Nat.le_trans HK5.out.1 (e k hk))⟩
    have HLT6 : Aside0 (w6.rangeLeft bl q < wr.rangeLeft bl q) := ⟨by rw [hleft]; exact HLT.out⟩
    have HM6 : Aside0 (∀ y, y ∈ l6 ↔ y ∈ done ++ [x] ∧ ∀ z, ¬ waitsP rows kn kn.length y z) := ⟨fun y => by rw [hpm.mem_iff]; exact HM5.out y⟩
    have HN6 : Aside0 (l6.Nodup) := ⟨hpm.nodup_iff.mpr HN5.out⟩
    have HHP6 := Aside0.mk hhp6; have HH6 := Aside0.mk hh6; have HB6 := Aside0.mk hb6
    clear hpm hhp6 hh6 hb6 hk6 ho6 hT hr6 hleft hen hln
    go_wp2
    go_roundw
    case rel => exact ⟨done ++ [x], l6, v6, HR6, HW6, HH6, HHP6, HN6, HM6, HDN5, HOW6, HB6, HK6⟩
    case measure => exact HLT6.out
   ·have hzb : (((L x).length : Int) == 0) = false := beq_eq_false_iff_ne.mpr (fun e => hz (by omega))
    have HM5 : Aside0 (∀ y, y ∈ l ↔ y ∈ done ++ [x] ∧ ∀ z, ¬ waitsP rows kn kn.length y z) := ⟨fun y => by
     rw [HMM.out y, List.mem_append, List.mem_singleton]
     constructor
     ·rintro ⟨h1, h2⟩; exact ⟨.inl h1, h2⟩
     ·rintro ⟨h1 | h1, h2⟩
      ·exact ⟨h1, h2⟩
      ·exfalso
       subst h1
       obtain ⟨z, hzm⟩ := List.exists_mem_of_length_pos (show 0 < (L y).length by omega)
       exact h2 z ((HWT.out y HX.out z).mp hzm)⟩
    clear hz HMM
    go_wp2
    go_roundw
    case rel => exact ⟨done ++ [x], l, v, HR5, HW5, HH5, HHP, HND, HM5, HDN5, HOW, HB5, HK5⟩
    case measure => exact HLT.out
theorem scc_Knots.calls (A0_0 : Option Addr) (c0_0 : Nat) (l0_0 : List (S150)) (A0_1 : Option Addr) (c0_1 : Nat) (l0_1 : List (S152)) (A0_2 : Option Addr) (c0_2 : Nat) (l0_2 : List (S26)) (r : List (List Int)) (w : World) (hr0_0 : Kd.C k150 w A0_0 l0_0.length l0_0) (hc0_0 : l0_0.length ≤ c0_0) (hr0_1 : Kd.C k152 w A0_1 l0_1.length l0_1) (hc0_1 : l0_1.length ≤ c0_1) (hr0_2 : Kd.C k26 w A0_2 l0_2.length l0_2) (hc0_2 : l0_2.length ≤ c0_2) (h : scc_Knots.f l0_0 l0_1 l0_2 = some r) :
  Calls Try.prog 35 #[.agg #[.slice A0_0 l0_0.length c0_0, .slice A0_1 l0_1.length c0_1, .slice A0_2 l0_2.length c0_2]] w fun e w' => ∃ v0_ : Value, e = .returned (v0_) ∧ Kd.S (Kd.slice 3 (Kd.int .i64)) 34 w' w.heap.size (fun _ => True) v0_ r ∧ Below w.heap.size w w' :=
 knots_all r w ⟨hr0_0, hc0_0, hr0_1, hc0_1, hr0_2, hc0_2⟩ h
def noB : ByteArray := ⟨#[]⟩
/-- A call. -/
def insC (n : Int) : S58 := ⟨31, noB, [], n, noB⟩
def upto (k : Nat) : List Int := (List.range k).map (fun i : Nat => (i : Int))
theorem upto_succ (k : Nat) : upto (k + 1) = upto k ++ [(k : Int)] := by unfold upto; rw [List.range_succ, List.map_append]; rfl
theorem upto_len (k : Nat) : (upto k).length = k := by unfold upto; simp
def blkC (k : Nat) : S40 := ⟨upto k, 0, 0, ⟨0, 0⟩⟩
/-- A function that calls. -/
def funC (l : List Int) : S26 := ⟨noB, [], noB, [], l.map insC, [blkC l.length]⟩
def truantlaw20_calls.f (l0 : List (List Int)) : Option ((List (S150)) × (List (S152)) × (List (S26))) := if l0.length ≤ LIMS ∧ ∀ r ∈ l0, r.length ≤ LIMS then some ([], [], l0.map funC) else none
theorem infoI : (Try.prog.info? 58).map (fun i => (i.zero, i.size, i.bytes)) = some (some (.agg #[.int .i64 0, .string ⟨#[]⟩, .slice none 0 0, .int .i64 0, .string ⟨#[]⟩]), 5, 72) := by kernel_rfl
theorem infoFn : (Try.prog.info? 26).map (fun i => (i.zero, i.size, i.bytes)) = some (some (.agg #[.string ⟨#[]⟩, .slice none 0 0, .string ⟨#[]⟩, .slice none 0 0, .slice none 0 0, .slice none 0 0]), 6, 128) := by kernel_rfl
/-- A row of one element, in a block of its own. -/
theorem R_one {α : Type} {d : Kd α} {e base g : Nat} {w : World} {ok : Nat → Prop} {x : α} {cs : Array Value} (hb : w.heap[g]? = some (.cells cs e (0, 0))) (hM : d.M w base (fun k => ok k ∧ k ≠ g) x cs.toList) (hok : ok g) (hbase : base ≤ g) : d.R e w base ok (.slice (some ⟨g, 0, none⟩) 1 1) [x] := by
 have hl : cs.toList.length = d.sz := d.K_len (d.K_of_M hM)
 refine ⟨fun k hk => (show g = k by simpa [Value.ownBlock] using hk) ▸ hok, cs.toList, ⟨by rw [hl]; simp, .inr ⟨g, 1, cs, rfl, hbase, hb, Nat.le_refl _, by decide, by rw [Nat.one_mul, ← hl]; simp, by rw [List.length_singleton, Nat.one_mul, ← hl, List.take_length]⟩⟩, ?_⟩
 refine ⟨by rw [hl]; simp, fun j p hj => ?_⟩
 cases j with
 | zero =>
  simp only [List.getElem?_cons_zero, Option.some.injEq] at hj
  subst hj
  rw [Nat.zero_mul, List.drop_zero, ← hl, List.take_length]
  exact d.M_mono (fun k hk => ⟨hk.1, fun e => hk.2 (by simpa [Value.ownBlock] using e)⟩) hM
 | succ j => simp at hj
def lcalls.T9 : Bool × List (List Nat × List Nat) := (true, [([], []), ([0], [0]), ([], []), ([], []), ([2, 3], [2, 3]), ([4], [4]), ([], []), ([5, 6], [5, 6]), ([7], [7]), ([8], [8]), ([9], [9]), ([1, 10], [1, 10]), ([0, 1, 2, 3, 4, 5, 6, 7, 8, 9, 10, 11], []), ([12, 11, 11, 0, 1, 2, 3, 4, 5, 6, 7, 8, 9, 10, 11], [11, 12])])
def lcalls.B9 : List Nat := [0, 1, 0, 0, 12, 28, 0, 124, 252, 508, 1020, 2047, 4095, 8191]
theorem lcalls.tab9 : rtab .any (opsOf Try.f56 9) = lcalls.T9 := by kernel_rfl
theorem lcalls.bits9 : waitsOk lcalls.T9.2 lcalls.B9 = true := by kernel_rfl
def lcalls.T10 : Bool × List (List Nat × List Nat) := (true, [([], []), ([0], [0]), ([], []), ([2], [2]), ([3], [3]), ([4], [4]), ([5], [5]), ([], []), ([7], [7]), ([6, 8], [6, 8]), ([1, 0, 1, 2, 3, 4, 5, 6, 7, 8, 9], [1]), ([10, 0, 1, 2, 3, 4, 5, 6, 7, 8, 9], [10]), ([11, 9, 9, 0, 1, 2, 3, 4, 5, 6, 7, 8, 9], [9, 11])])
def lcalls.B10 : List Nat := [0, 1, 0, 4, 12, 28, 60, 0, 128, 508, 1023, 2047, 4095]
theorem lcalls.tab10 : rtab .any (opsOf Try.f56 10) = lcalls.T10 := by kernel_rfl
theorem lcalls.bits10 : waitsOk lcalls.T10.2 lcalls.B10 = true := by kernel_rfl
set_option maxRecDepth 100000 in
set_option maxHeartbeats 8000000 in
theorem truantlaw20_calls.calls (A0 : Option Addr) (c0 : Nat) (l0 : List (List Int)) (r1 : List (S150)) (r2 : List (S152)) (r3 : List (S26)) (w : World) (hr0 : Kd.C (Kd.slice 3 (Kd.int .i64)) w A0 l0.length l0) (hc0 : l0.length ≤ c0) (h : truantlaw20_calls.f l0 = some (r1, r2, r3)) :
  Calls Try.prog 56 #[.slice A0 l0.length c0] w fun e w' => ∃ v0_ v1_ v2_ : Value, e = .returned (.agg #[v0_, v1_, v2_]) ∧ Kd.S k150 150 w' w.heap.size (fun k_ => some k_ ≠ (v1_ : Value).ownBlock) v0_ r1 ∧ Kd.R k152 152 w' w.heap.size (fun _ => True) v1_ r2 ∧ Kd.R k26 26 w' w.heap.size (fun _ => True) v2_ r3 ∧ Below w.heap.size w w' := by
 unfold truantlaw20_calls.f at h
 split at h
 case isFalse => cases h
 rename_i hlim
 simp only [Option.some.injEq, Prod.mk.injEq] at h
 obtain ⟨rfl, rfl, rfl⟩ := h
 have HC := Aside0.mk hr0; have HLIM := Aside0.mk hlim
 have hm0 := Kd.C_max hr0
 clear hr0 hc0 hlim
 have HB0 := Aside0.mk (below_alloc (below_alloc (Below.refl w.heap.size w) (.cells #[.slice none 0 0, .slice none 0 0, .slice none 0 0] 48)) (.cells #[.slice none 0 0, .slice none 0 0, .slice none 0 0] 48))
 have HZ0 : Aside0 (((w.alloc (.cells #[.slice none 0 0, .slice none 0 0, .slice none 0 0] 48)).alloc (.cells #[.slice none 0 0, .slice none 0 0, .slice none 0 0] 48)).heap[w.heap.size]? = some (.cells #[.slice none 0 0, .slice none 0 0, .slice none 0 0] 48 (0, 0))) := ⟨blk_alloc (blk_new _ _) _⟩
 have HP0 : Aside0 (((w.alloc (.cells #[.slice none 0 0, .slice none 0 0, .slice none 0 0] 48)).alloc (.cells #[.slice none 0 0, .slice none 0 0, .slice none 0 0] 48)).heap[w.heap.size + 1]? = some (.cells #[.slice none 0 0, .slice none 0 0, .slice none 0 0] 48 (0, 0))) := ⟨by
  have := blk_new (w.alloc (.cells #[.slice none 0 0, .slice none 0 0, .slice none 0 0] 48)) (.cells #[.slice none 0 0, .slice none 0 0, .slice none 0 0] 48)
  rw [World.size_alloc] at this
  exact this⟩
 go_enter Try.func56, Try.ntmps56
 go_upto_region 2 with fail
 generalize (w.alloc (.cells #[.slice none 0 0, .slice none 0 0, .slice none 0 0] 48)).alloc (.cells #[.slice none 0 0, .slice none 0 0, .slice none 0 0] 48) = w1 at HB0 HZ0 HP0 ⊢
 obtain ⟨gp, hgp⟩ : ∃ gp, gp = w.heap.size + 1 := ⟨_, rfl⟩
 rw [← hgp] at HP0 ⊢
 have HGP : Aside0 (gp = w.heap.size + 1) := ⟨hgp⟩
 clear hgp
 go_wp2_with fail
 go_loopg [4, 5, 6] l0.length (fun kq v4 _ _ wr => ∃ (i : Nat) (vF : Value), v4 = .int .i64 i ∧ i + kq = l0.length ∧ Aside0 (wr.heap[w.heap.size]? = some (.cells #[.slice none 0 0, .slice none 0 0, .slice none 0 0] 48 (0, 0))) ∧ Aside0 (wr.heap[gp]? = some (.cells #[.slice none 0 0, .slice none 0 0, vF] 48 (0, 0))) ∧ Aside0 (Kd.R k26 26 wr w.heap.size (fun _ => True) vF ((l0.take i).map funC)) ∧ Aside0 (Below w.heap.size w wr))
 case atStart => exact ⟨0, _, rfl, Nat.zero_add _, HZ0, HP0, ⟨Kd.R_nil _ _ _ _ _⟩, HB0⟩
 case round =>
  clear HZ0 HP0 HB0
  obtain ⟨i, vF, rfl, hik, HZ, HP, HF, HB⟩ := hrel
  by_cases hlt : i < l0.length
  ·obtain ⟨k1, rfl⟩ : ∃ k1, gk = k1 + 1 := ⟨gk - 1, by omega⟩
   obtain ⟨ad, Ai, ci, ea, hx0, hci, hCi⟩ := at_L6 HC.out (i : Int) (by omega) (by omega)
   subst ea
   obtain ⟨row, hrow⟩ : ∃ row, row = rd_L6 l0 (i : Int) := ⟨_, rfl⟩
   rw [← hrow] at hx0 hci hCi
   rw [Int.toNat_natCast] at hx0
   have hrowi : l0[i] = row := by rw [hrow]; unfold rd_L6; rw [Int.toNat_natCast, getD_at _ _ hlt]
   have HRL : Aside0 (row.length ≤ LIMS) := ⟨HLIM.out.2 row (by rw [← hrowi]; exact List.getElem_mem hlt)⟩
   have HEX : Aside0 ((l0.take (i + 1)).map funC = (l0.take i).map funC ++ [funC row]) := ⟨by rw [List.take_succ_eq_append_getElem hlt, List.map_append, hrowi]; rfl⟩
   have HFL : Aside0 (((l0.take i).map funC).length ≤ LIMS) := ⟨by rw [List.length_map, List.length_take]; have := HLIM.out.1; omega⟩
   obtain ⟨M, hM⟩ : ∃ M, M = (l0.take i).map funC := ⟨_, rfl⟩
   rw [← hM] at HF HEX HFL
   have HCI := Aside0.mk hCi; have HX0 := Aside0.mk hx0
   have hrm := Kd.C_max hCi
   clear hrow hci hCi hx0 hrowi hM
   have HG5 : Aside0 (((wr.alloc (.cells #[.slice none 0 0, .int .i64 0, .int .i64 0, .int .i64 0, .int .i64 0] 40)).alloc (.cells #[.string ⟨#[]⟩, .slice none 0 0, .string ⟨#[]⟩, .slice none 0 0, .slice none 0 0, .slice (some ⟨wr.heap.size, 0, none⟩) 1 1] 26)).heap[wr.heap.size + 1]? = some (.cells #[.string ⟨#[]⟩, .slice none 0 0, .string ⟨#[]⟩, .slice none 0 0, .slice none 0 0, .slice (some ⟨wr.heap.size, 0, none⟩) 1 1] 26 (0, 0))) := ⟨by
    have := blk_new (wr.alloc (.cells #[.slice none 0 0, .int .i64 0, .int .i64 0, .int .i64 0, .int .i64 0] 40)) (.cells #[.string ⟨#[]⟩, .slice none 0 0, .string ⟨#[]⟩, .slice none 0 0, .slice none 0 0, .slice (some ⟨wr.heap.size, 0, none⟩) 1 1] 26)
    rw [World.size_alloc] at this
    exact this⟩
   have HK5 : Aside0 (((wr.alloc (.cells #[.slice none 0 0, .int .i64 0, .int .i64 0, .int .i64 0, .int .i64 0] 40)).alloc (.cells #[.string ⟨#[]⟩, .slice none 0 0, .string ⟨#[]⟩, .slice none 0 0, .slice none 0 0, .slice (some ⟨wr.heap.size, 0, none⟩) 1 1] 26)).heap[wr.heap.size]? = some (.cells #[.slice none 0 0, .int .i64 0, .int .i64 0, .int .i64 0, .int .i64 0] 40 (0, 0))) := ⟨blk_alloc (blk_new _ _) _⟩
   have HB5 := Aside0.mk (below_alloc (below_alloc (Below.refl wr.heap.size wr) (.cells #[.slice none 0 0, .int .i64 0, .int .i64 0, .int .i64 0, .int .i64 0] 40)) (.cells #[.string ⟨#[]⟩, .slice none 0 0, .string ⟨#[]⟩, .slice none 0 0, .slice none 0 0, .slice (some ⟨wr.heap.size, 0, none⟩) 1 1] 26))
   go_upto_region 6 with fail
   generalize (wr.alloc (.cells #[.slice none 0 0, .int .i64 0, .int .i64 0, .int .i64 0, .int .i64 0] 40)).alloc (.cells #[.string ⟨#[]⟩, .slice none 0 0, .string ⟨#[]⟩, .slice none 0 0, .slice none 0 0, .slice (some ⟨wr.heap.size, 0, none⟩) 1 1] 26) = w5 at HG5 HK5 HB5 ⊢
   obtain ⟨gb, hgb⟩ : ∃ gb, gb = wr.heap.size := ⟨_, rfl⟩
   obtain ⟨gf, hgf⟩ : ∃ gf, gf = wr.heap.size + 1 := ⟨_, rfl⟩
   rw [← hgf, ← hgb] at HG5
   rw [← hgb] at HK5
   rw [← hgf, ← hgb]
   have HGB : Aside0 (wr.heap.size ≤ gb ∧ wr.heap.size ≤ gf ∧ gb ≠ gf) := ⟨by omega⟩
   clear hgb hgf
   obtain ⟨wi, rfl⟩ : ∃ wi, wi = wr := ⟨_, rfl⟩
   go_wp2_with fail
   go_loopg [6] row.length (fun kq v6 w3 => ∃ (j : Nat) (vI vL : Value), v6 = .int .i64 j ∧ j + kq = row.length ∧ Aside0 (Below wi.heap.size wi w3) ∧ Aside0 (w3.heap[gf]? = some (.cells #[.string ⟨#[]⟩, .slice none 0 0, .string ⟨#[]⟩, .slice none 0 0, vI, .slice (some ⟨gb, 0, none⟩) 1 1] 26 (0, 0))) ∧ Aside0 (w3.heap[gb]? = some (.cells #[vL, .int .i64 0, .int .i64 0, .int .i64 0, .int .i64 0] 40 (0, 0))) ∧ Aside0 (k58.R 58 w3 wi.heap.size (fun k => True ∧ some k ≠ vL.ownBlock) vI ((row.take j).map insC)) ∧ Aside0 ((Kd.int .i64).R 3 w3 wi.heap.size (fun _ => True) vL (upto j)))
   case atStart => exact ⟨0, _, _, rfl, Nat.zero_add _, HB5, HG5, HK5, ⟨Kd.R_nil _ _ _ _ _⟩, ⟨Kd.R_nil _ _ _ _ _⟩⟩
   case round =>
    clear HG5 HK5 HB5
    obtain ⟨j, vI, vL, rfl, hjk, HBI, HG, HK, HI, HL⟩ := hrel
    have HBW := Aside0.mk (below_step HB.out HBI.out)
    have hx0 := pw_cell_below HBW.out HX0.out
    by_cases hj : j < row.length
    ·obtain ⟨k2, rfl⟩ : ∃ k2, gk = k2 + 1 := ⟨gk - 1, by omega⟩
     obtain ⟨ak, ea, hkc⟩ := at_int HCI.out j hj
     cases ea
     obtain ⟨n, hn⟩ : ∃ n, n = row.getD j 0 := ⟨_, rfl⟩
     rw [← hn] at hkc
     have hni : row[j] = n := by rw [hn, getD_at row 0 hj]
     have HE9 : Aside0 ((row.take (j + 1)).map insC = (row.take j).map insC ++ [insC n]) := ⟨by rw [List.take_succ_eq_append_getElem hj, List.map_append, hni]; rfl⟩
     have HXE := Aside0.mk hkc
     obtain ⟨MI, hMI⟩ : ∃ MI, MI = (row.take j).map insC := ⟨_, rfl⟩
     have HML : Aside0 (MI.length ≤ LIMS) := ⟨by rw [hMI, List.length_map, List.length_take]; have := HRL.out; omega⟩
     obtain ⟨ML, hML⟩ : ∃ ML, ML = upto j := ⟨_, rfl⟩
     have HMM : Aside0 (ML.length ≤ LIMS) := ⟨by rw [hML, upto_len]; have := HRL.out; omega⟩
     have HU9 : Aside0 (upto (j + 1) = ML ++ [(j : Int)]) := ⟨by rw [upto_succ, hML]⟩
     rw [← hMI] at HI HE9
     rw [← hML] at HL
     clear hn hni hkc hMI hML
     obtain ⟨Av, cv, hv⟩ := Kd.R_slice HI.out
     subst hv
     obtain ⟨Al, cl, hv⟩ := Kd.R_slice HL.out
     subst hv
     have hjr : (j : Int) < (row.length : Int) := by omega
     go_upto_region 9 with fail
     clear hx0
     refine start_ (n := 14) (S := fun w' => w'.heap[gf]? = some (.cells #[.string ⟨#[]⟩, .slice none 0 0, .string ⟨#[]⟩, .slice none 0 0, .slice Av MI.length cv, .slice (some ⟨gb, 0, none⟩) 1 1] 26 (0, 0)) ∧ Below w.heap.size w w') (ds := [13]) (tf 0 14) (by kernel_rfl) rfl rfl ⟨(blk_drew HG.out), (below_drew HBW.out)⟩ (fun hHeld => ?_)
     refine with_tabW lcalls.tab9 lcalls.bits9 (fun HT_ HW_ => ?_)
     refine pure_ (i := 0) (N := some 26) (v := ?_) (a' := ?_) (tf 1 13) rfl rfl (any_of HT_.out (by kernel_rfl)) (fun _ _ _ h => h) (Or.inl ⟨by rfl, ?_⟩) ?_ ?_
     rotate_left
     ·intro w'
      go_simp
      with_reducible rfl
     rotate_left
     ·simp only [Act.put, List.setIfInBounds_toArray, List.set_cons_zero, List.set_cons_succ, i64_w, i32_w]
      rfl
     refine pure_ (i := 2) (N := some 28) (v := ?_) (a' := ?_) #[true, false, true, false, false, false, false, false, false, false, false, false, false, false] rfl rfl (any_of HT_.out (by kernel_rfl)) (fun _ _ _ h => h) (Or.inl ⟨by rfl, ?_⟩) ?_ ?_
     rotate_left
     ·intro w'
      go_simp
      with_reducible rfl
     rotate_left
     ·simp only [Act.put, List.setIfInBounds_toArray, List.set_cons_zero, List.set_cons_succ, i64_w, i32_w]
      rfl
     refine pure_ (i := 3) (N := some 29) (v := ?_) (a' := ?_) #[true, false, true, true, false, false, false, false, false, false, false, false, false, false] rfl rfl (any_of HT_.out (by kernel_rfl)) (fun _ _ _ h => h) (Or.inl ⟨by rfl, ?_⟩) ?_ ?_
     rotate_left
     ·intro w'
      go_simp
      with_reducible rfl
     rotate_left
     ·simp only [Act.put, List.setIfInBounds_toArray, List.set_cons_zero, List.set_cons_succ, i64_w, i32_w]
      rfl
     refine pure_ (i := 4) (N := some 30) (v := ?_) (a' := ?_) #[true, false, true, true, true, false, false, false, false, false, false, false, false, false] rfl rfl (any_of HT_.out (by kernel_rfl)) (fun _ _ _ h => h) (Or.inl ⟨by rfl, ?_⟩) ?_ ?_
     rotate_left
     ·intro w'
      go_simp
      with_reducible rfl
     rotate_left
     ·simp only [Act.put, List.setIfInBounds_toArray, List.set_cons_zero, List.set_cons_succ, i64_w, i32_w]
      rfl
     refine pure_ (i := 6) (N := some 32) (v := ?_) (a' := ?_) #[true, false, true, true, true, false, true, false, false, false, false, false, false, false] rfl rfl (any_of HT_.out (by kernel_rfl)) (fun _ _ _ h => h) (Or.inl ⟨by rfl, ?_⟩) ?_ ?_
     rotate_left
     ·intro w'
      go_simp
      with_reducible rfl
     rotate_left
     ·simp only [Act.put, List.setIfInBounds_toArray, List.set_cons_zero, List.set_cons_succ, i64_w, i32_w]
      rfl
     refine take_ (i := 1) (N := some 27) (v := ?_) (a' := ?_) #[true, true, true, true, true, false, true, false, false, false, false, false, false, false] rfl rfl (take_ofW HT_.out HW_.out (by kernel_rfl)) (fun _ _ _ h => h) (Or.inl ⟨by rfl, ?_⟩) hHeld ?_ ?_
     rotate_left
     ·rintro w' ⟨s0, s1⟩
      obtain ⟨y0, y1, y2, y3, y4, y5, _⟩ := bk6 s0
      go_simp
      with_reducible rfl
     rotate_left
     ·simp only [Act.put, List.setIfInBounds_toArray, List.set_cons_zero, List.set_cons_succ, i64_w, i32_w]
      rfl
     refine take_ (i := 5) (N := some 31) (v := ?_) (a' := ?_) (tf 7 7) rfl rfl (take_ofW HT_.out HW_.out (by kernel_rfl)) (fun _ _ _ h => h) (Or.inl ⟨by rfl, ?_⟩) hHeld ?_ ?_
     rotate_left
     ·rintro w' ⟨s0, s1⟩
      have x9 := pw_cell_below s1 HX0.out
      go_simp
      with_reducible rfl
     rotate_left
     ·simp only [Act.put, List.setIfInBounds_toArray, List.set_cons_zero, List.set_cons_succ, i64_w, i32_w]
      rfl
     refine pure_ (i := 7) (N := some 33) (v := ?_) (a' := ?_) (tf 8 6) rfl rfl (any_of HT_.out (by kernel_rfl)) (fun _ _ _ h => h) (Or.inl ⟨by rfl, ?_⟩) ?_ ?_
     rotate_left
     ·intro w'
      go_simp
      with_reducible rfl
     rotate_left
     ·simp only [Act.put, List.setIfInBounds_toArray, List.set_cons_zero, List.set_cons_succ, i64_w, i32_w]
      rfl
     refine take_ (i := 8) (N := some 34) (v := ?_) (a' := ?_) (tf 9 5) rfl rfl (take_ofW HT_.out HW_.out (by kernel_rfl)) (fun _ _ _ h => h) (Or.inl ⟨by rfl, ?_⟩) hHeld ?_ ?_
     rotate_left
     ·rintro w' ⟨s0, s1⟩
      have x9 := pw_cell_below s1 HXE.out
      go_simp
      with_reducible rfl
     rotate_left
     ·simp only [Act.put, List.setIfInBounds_toArray, List.set_cons_zero, List.set_cons_succ, i64_w, i32_w]
      rfl
     refine pure_ (i := 9) (N := some 35) (v := ?_) (a' := ?_) (tf 10 4) rfl rfl (any_of HT_.out (by kernel_rfl)) (fun _ _ _ h => h) (Or.inl ⟨by rfl, ?_⟩) ?_ ?_
     rotate_left
     ·intro w'
      go_simp
      with_reducible rfl
     rotate_left
     ·simp only [Act.put, List.setIfInBounds_toArray, List.set_cons_zero, List.set_cons_succ, i64_w, i32_w]
      rfl
     refine one_ (i := 10) (N := some 36) (tf 11 3) rfl rfl (one_of HT_.out (by kernel_rfl)) (by decide) (fun K hK => ?_)
     refine value_ (w1 := ?_) (v := ?_) (by rfl) rfl ?_ ?_
     rotate_left 2
     ·go_simp
      constructor
      ·rfl
      ·rfl
     refine hK.out _ _ ⟨(blk_alloc hHeld.1 _), (below_alloc hHeld.2 _)⟩ (fun hHeld => ?_)
     clear hK K
     refine norm_ (a' := ?_) ?_ ?_
     rotate_left
     ·show Act.put _ (some 36) _ = _
      simp only [Act.put, List.setIfInBounds_toArray, List.set_cons_zero, List.set_cons_succ, i64_w, i32_w]
      rfl
     refine one_ (i := 11) (N := some 37) (tf 12 2) rfl rfl (one_of HT_.out (by kernel_rfl)) (by decide) (fun K hK => ?_)
     refine Kd.R_append_step k58 (w0 := wi) (W := wr.drew) wi.heap.size (by rfl) (.tmp 27) (.tmp 36) 23 58 (.agg #[.int .i64 0, .string ⟨#[]⟩, .slice none 0 0, .int .i64 0, .string ⟨#[]⟩]) 72 rfl Try.underlying23 infoI rfl (by decide) (by decide) (.slice Av MI.length cv) MI (insC n) [.int .i64 31, .string ⟨#[]⟩, .slice none 0 0, .int .i64 n, .string ⟨#[]⟩] (fun k => True ∧ some k ≠ (Value.slice Al ML.length cl).ownBlock) (fun _ => False) rfl rfl (k58_mkM _ _ _ (insC n) (Kd.R_nil _ _ _ _ _)) (fun _ hk => hk.elim) (fun k hk => ⟨trivial, fun e => by have h1 := Kd.R_lt HL.out k e.symm; have h2 : wr.heap.size ≤ k := hk; omega⟩) (Kd.R_below HI.out (below_drew (Below.refl _ _))) (below_drew HBI.out) HBI.out.size (by have := HML.out; unfold LIMS at this; omega) ?_
     intro v5 w5 hq5 hb5 hg5 hat5
     obtain ⟨A5, c5, e5⟩ := Kd.R_slice hq5
     subst e5
     have HI5 := Aside0.mk hq5
     have HBI5 := Aside0.mk hb5
     have HG5 := Aside0.mk (blk_grown (blk_drew HG.out) hg5 (Kd.R_ne HI.out HG.out (by decide)))
     have HK5 := Aside0.mk (blk_grown (blk_drew HK.out) hg5 (Kd.R_ne HI.out HK.out (by decide)))
     have HL5 : Aside0 ((Kd.int .i64).R 3 w5 wi.heap.size (fun _ => True) (.slice Al ML.length cl) ML) := ⟨Kd.R_over' (Kd.R_below HL.out (below_drew (Below.refl _ _))) (Kd.R_typed HI.out) (by decide) hg5⟩
     have HBW5 := Aside0.mk (below_step HB.out HBI5.out)
     clear hq5 hb5 hg5 hat5
     refine hK.out _ _ ⟨HG5.out, HBW5.out⟩ (fun hHeld => ?_)
     clear hK K
     refine norm_ (a' := ?_) ?_ ?_
     rotate_left
     ·show Act.put _ (some 37) _ = _
      simp only [Act.put, List.setIfInBounds_toArray, List.set_cons_zero, List.set_cons_succ, i64_w, i32_w]
      rfl
     refine pure_ (i := 12) (N := some 38) (v := ?_) (a' := ?_) (tf 13 1) rfl rfl (any_of HT_.out (by kernel_rfl)) (fun _ _ _ h => h) (Or.inl ⟨by rfl, ?_⟩) ?_ ?_
     rotate_left
     ·intro w'
      go_simp
      with_reducible rfl
     rotate_left
     ·simp only [Act.put, List.setIfInBounds_toArray, List.set_cons_zero, List.set_cons_succ, i64_w, i32_w]
      rfl
     refine last_ (i := 13) (N := none) (tf 14 0) rfl rfl (one_of HT_.out (by kernel_rfl)) (by decide) (fun K hK => ?_)
     obtain ⟨y0, y1, y2, y3, y4, y5, z0, z1, z2, z3, z4, z5⟩ := bk6 hHeld.1
     refine skip_ (w1 := ?_) (by rfl) rfl ?_ ?_
     rotate_left
     ·go_simp
      rfl
     refine hK.out _ _ ?_
     clear hK K
     refine done_ (done_of HT_.out (by kernel_rfl)) ?_
     have e6 : Value.slice A5 (MI ++ [insC n]).length c5 = .slice A5 (MI.length + 1) c5 := by rw [List.length_append, List.length_singleton]
     rw [e6] at HI5
     have HG6 := Aside0.mk (blk_put HG5.out 4 (.slice A5 (MI.length + 1) c5) rfl)
     have HK6 := Aside0.mk (blk_far HK5.out (p := ⟨gf, 4, none⟩) (HGB.out.2.2) (.slice A5 (MI.length + 1) c5))
     have HI6 := Aside0.mk (Kd.R_set HI5.out HG5.out (by decide) 4 (.slice A5 (MI.length + 1) c5))
     have HL6 := Aside0.mk (Kd.R_set HL5.out HG5.out (by decide) 4 (.slice A5 (MI.length + 1) c5))
     have HBI6 := Aside0.mk (below_set (j := 4) (v := .slice A5 (MI.length + 1) c5) HBI5.out HGB.out.2.1)
     clear HG5 HK5 HI5 HL5 HBI5 HBW5
     generalize w5.setCell ⟨gf, 4, none⟩ (.slice A5 (MI.length + 1) c5) = w6 at HG6 HK6 HI6 HL6 HBI6 ⊢
     clear HG HK HI HL HBW HBI
     go_upto_region 10 with fail
     refine start_ (n := 13) (S := fun w' => w'.heap[gf]? = some (.cells #[.string ⟨#[]⟩, .slice none 0 0, .string ⟨#[]⟩, .slice none 0 0, .slice A5 (MI.length + 1) c5, .slice (some ⟨gb, 0, none⟩) 1 1] 26 (0, 0)) ∧ w'.heap[gb]? = some (.cells #[.slice Al ML.length cl, .int .i64 0, .int .i64 0, .int .i64 0, .int .i64 0] 40 (0, 0))) (ds := [12]) (tf 0 13) (by kernel_rfl) rfl rfl ⟨(blk_drew HG6.out), (blk_drew HK6.out)⟩ (fun hHeld => ?_)
     refine with_tabW lcalls.tab10 lcalls.bits10 (fun HT_ HW_ => ?_)
     refine pure_ (i := 0) (N := some 39) (v := ?_) (a' := ?_) (tf 1 12) rfl rfl (any_of HT_.out (by kernel_rfl)) (fun _ _ _ h => h) (Or.inl ⟨by rfl, ?_⟩) ?_ ?_
     rotate_left
     ·intro w'
      go_simp
      with_reducible rfl
     rotate_left
     ·simp only [Act.put, List.setIfInBounds_toArray, List.set_cons_zero, List.set_cons_succ, i64_w, i32_w]
      rfl
     refine pure_ (i := 2) (N := some 41) (v := ?_) (a' := ?_) #[true, false, true, false, false, false, false, false, false, false, false, false, false] rfl rfl (any_of HT_.out (by kernel_rfl)) (fun _ _ _ h => h) (Or.inl ⟨by rfl, ?_⟩) ?_ ?_
     rotate_left
     ·intro w'
      go_simp
      with_reducible rfl
     rotate_left
     ·simp only [Act.put, List.setIfInBounds_toArray, List.set_cons_zero, List.set_cons_succ, i64_w, i32_w]
      rfl
     refine pure_ (i := 7) (N := some 46) (v := ?_) (a' := ?_) #[true, false, true, false, false, false, false, true, false, false, false, false, false] rfl rfl (any_of HT_.out (by kernel_rfl)) (fun _ _ _ h => h) (Or.inl ⟨by rfl, ?_⟩) ?_ ?_
     rotate_left
     ·intro w'
      go_simp
      with_reducible rfl
     rotate_left
     ·simp only [Act.put, List.setIfInBounds_toArray, List.set_cons_zero, List.set_cons_succ, i64_w, i32_w]
      rfl
     refine take_ (i := 1) (N := some 40) (v := ?_) (a' := ?_) #[true, true, true, false, false, false, false, true, false, false, false, false, false] rfl rfl (take_ofW HT_.out HW_.out (by kernel_rfl)) (fun _ _ _ h => h) (Or.inl ⟨by rfl, ?_⟩) hHeld ?_ ?_
     rotate_left
     ·rintro w' ⟨s0, s1⟩
      obtain ⟨y0, y1, y2, y3, y4, y5, _⟩ := bk6 s0
      go_simp
      with_reducible rfl
     rotate_left
     ·simp only [Act.put, List.setIfInBounds_toArray, List.set_cons_zero, List.set_cons_succ, i64_w, i32_w]
      rfl
     refine take_ (i := 3) (N := some 42) (v := ?_) (a' := ?_) #[true, true, true, true, false, false, false, true, false, false, false, false, false] rfl rfl (take_ofW HT_.out HW_.out (by kernel_rfl)) (fun _ _ _ h => h) (Or.inl ⟨by rfl, ?_⟩) hHeld ?_ ?_
     rotate_left
     ·rintro w' ⟨s0, s1⟩
      obtain ⟨y0, y1, y2, y3, y4, y5, _⟩ := bk6 s0
      go_simp
      with_reducible rfl
     rotate_left
     ·simp only [Act.put, List.setIfInBounds_toArray, List.set_cons_zero, List.set_cons_succ, i64_w, i32_w]
      rfl
     refine pure_ (i := 4) (N := some 43) (v := ?_) (a' := ?_) #[true, true, true, true, true, false, false, true, false, false, false, false, false] rfl rfl (any_of HT_.out (by kernel_rfl)) (fun _ _ _ h => h) (Or.inl ⟨by rfl, ?_⟩) ?_ ?_
     rotate_left
     ·intro w'
      go_simp
      with_reducible rfl
     rotate_left
     ·simp only [Act.put, List.setIfInBounds_toArray, List.set_cons_zero, List.set_cons_succ, i64_w, i32_w]
      rfl
     refine pure_ (i := 5) (N := some 44) (v := ?_) (a' := ?_) #[true, true, true, true, true, true, false, true, false, false, false, false, false] rfl rfl (any_of HT_.out (by kernel_rfl)) (fun _ _ _ h => h) (Or.inl ⟨by rfl, ?_⟩) ?_ ?_
     rotate_left
     ·intro w'
      go_simp
      with_reducible rfl
     rotate_left
     ·simp only [Act.put, List.setIfInBounds_toArray, List.set_cons_zero, List.set_cons_succ, i64_w, i32_w]
      rfl
     refine take_ (i := 6) (N := some 45) (v := ?_) (a' := ?_) (tf 8 5) rfl rfl (take_ofW HT_.out HW_.out (by kernel_rfl)) (fun _ _ _ h => h) (Or.inl ⟨by rfl, ?_⟩) hHeld ?_ ?_
     rotate_left
     ·rintro w' ⟨s0, s1⟩
      obtain ⟨y0, y1, y2, y3, y4, _⟩ := bk5 s1
      go_simp
      with_reducible rfl
     rotate_left
     ·simp only [Act.put, List.setIfInBounds_toArray, List.set_cons_zero, List.set_cons_succ, i64_w, i32_w]
      rfl
     refine one_ (i := 8) (N := some 47) (tf 9 4) rfl rfl (one_of HT_.out (by kernel_rfl)) (by decide) (fun K hK => ?_)
     refine value_ (w1 := ?_) (v := ?_) (by rfl) rfl ?_ ?_
     rotate_left 2
     ·go_simp
      constructor
      ·rfl
      ·rfl
     refine hK.out _ _ ⟨(blk_alloc hHeld.1 _), (blk_alloc hHeld.2 _)⟩ (fun hHeld => ?_)
     clear hK K
     refine norm_ (a' := ?_) ?_ ?_
     rotate_left
     ·show Act.put _ (some 47) _ = _
      simp only [Act.put, List.setIfInBounds_toArray, List.set_cons_zero, List.set_cons_succ, i64_w, i32_w]
      rfl
     refine one_ (i := 9) (N := some 48) (tf 10 3) rfl rfl (one_of HT_.out (by kernel_rfl)) (by decide) (fun K hK => ?_)
     refine Kd.R_append_step (Kd.int .i64) (w0 := wi) (W := w6.drew) wi.heap.size (by rfl) (.tmp 45) (.tmp 47) 34 3 (.int .i64 0) 8 rfl Try.underlying34 info3 rfl (by decide) (by decide) (.slice Al ML.length cl) ML (j : Int) [.int .i64 (j : Int)] (fun _ => True) (fun _ => False) rfl rfl rfl (fun _ hk => hk.elim) (fun _ _ => trivial) (Kd.R_below HL6.out (below_drew (Below.refl _ _))) (below_drew HBI6.out) HBI6.out.size (by have := HMM.out; unfold LIMS at this; omega) ?_
     intro v8 w8 hq8 hb8 hg8 hat8
     obtain ⟨A8, c8, e8⟩ := Kd.R_slice hq8
     subst e8
     have HL8 := Aside0.mk hq8
     have HBI8 := Aside0.mk hb8
     have HG8 := Aside0.mk (blk_grown (blk_drew HG6.out) hg8 (Kd.R_ne HL6.out HG6.out (by decide)))
     have HK8 := Aside0.mk (blk_grown (blk_drew HK6.out) hg8 (Kd.R_ne HL6.out HK6.out (by decide)))
     have HI8 := Aside0.mk (Kd.R_after (Kd.R_below HI6.out (below_drew (Below.refl _ _))) hg8 hat8)
     clear hq8 hb8 hg8 hat8
     refine hK.out _ _ ⟨HG8.out, HK8.out⟩ (fun hHeld => ?_)
     clear hK K
     refine norm_ (a' := ?_) ?_ ?_
     rotate_left
     ·show Act.put _ (some 48) _ = _
      simp only [Act.put, List.setIfInBounds_toArray, List.set_cons_zero, List.set_cons_succ, i64_w, i32_w]
      rfl
     refine pure_ (i := 10) (N := some 49) (v := ?_) (a' := ?_) (tf 11 2) rfl rfl (any_of HT_.out (by kernel_rfl)) (fun _ _ _ h => h) (Or.inl ⟨by rfl, ?_⟩) ?_ ?_
     rotate_left
     ·intro w'
      go_simp
      with_reducible rfl
     rotate_left
     ·simp only [Act.put, List.setIfInBounds_toArray, List.set_cons_zero, List.set_cons_succ, i64_w, i32_w]
      rfl
     refine pure_ (i := 11) (N := some 50) (v := ?_) (a' := ?_) (tf 12 1) rfl rfl (any_of HT_.out (by kernel_rfl)) (fun _ _ _ h => h) (Or.inl ⟨by rfl, ?_⟩) ?_ ?_
     rotate_left
     ·intro w'
      go_simp
      with_reducible rfl
     rotate_left
     ·simp only [Act.put, List.setIfInBounds_toArray, List.set_cons_zero, List.set_cons_succ, i64_w, i32_w]
      rfl
     refine last_ (i := 12) (N := none) (tf 13 0) rfl rfl (one_of HT_.out (by kernel_rfl)) (by decide) (fun K hK => ?_)
     obtain ⟨y0, y1, y2, y3, y4, z0, z1, z2, z3, z4⟩ := bk5 hHeld.2
     refine skip_ (w1 := ?_) (by rfl) rfl ?_ ?_
     rotate_left
     ·go_simp
      rfl
     refine hK.out _ _ ?_
     clear hK K
     refine done_ (done_of HT_.out (by kernel_rfl)) ?_
     have e8 : Value.slice A8 (ML ++ [(j : Int)]).length c8 = .slice A8 (ML.length + 1) c8 := by rw [List.length_append, List.length_singleton]
     rw [e8] at HL8 HI8
     have HK7 := Aside0.mk (blk_put HK8.out 0 (.slice A8 (ML.length + 1) c8) rfl)
     have HG7 := Aside0.mk (blk_far HG8.out (p := ⟨gb, 0, none⟩) (Ne.symm HGB.out.2.2) (.slice A8 (ML.length + 1) c8))
     have HI7 := Aside0.mk (Kd.R_set HI8.out HK8.out (by decide) 0 (.slice A8 (ML.length + 1) c8))
     have HL7 := Aside0.mk (Kd.R_set HL8.out HK8.out (by decide) 0 (.slice A8 (ML.length + 1) c8))
     have HBI7 := Aside0.mk (below_set (j := 0) (v := .slice A8 (ML.length + 1) c8) HBI8.out HGB.out.1)
     go_wp2
     go_roundg k2
     case measure => omega
     case rel => exact ⟨j + 1, _, _, by go_num, by omega, HBI7, HG7, HK7, ⟨by rw [HE9.out]; exact HI7.out⟩, ⟨by rw [HU9.out]; exact HL7.out⟩⟩
    ·have hje : j = row.length := by omega
     rw [hje, List.take_length] at HI
     rw [hje] at HL
     have HP6 := Aside0.mk (blk_below HP.out HBI.out); have HZ6 := Aside0.mk (blk_below HZ.out HBI.out); have HF6 := Aside0.mk (Kd.R_below HF.out HBI.out)
     have HVL : Aside0 (∀ k, vF.ownBlock = some k → k < wi.heap.size) := ⟨fun k hk => Kd.R_lt HF.out k hk⟩
     obtain ⟨Av, cv, hv⟩ := Kd.R_slice HF6.out
     subst hv
     obtain ⟨y0, y1, y2, z0, z1, z2⟩ := bk3 HP6.out
     obtain ⟨x0, x1, x2, x3, x4, x5, _⟩ := bk6 HG.out
     clear hje
     go_wp2_with (at_builtin; refine Kd.R_append k26 (w0 := w) w.heap.size rfl (.tmp 52) (.tmp 54) 46 26 (.agg #[.string ⟨#[]⟩, .slice none 0 0, .string ⟨#[]⟩, .slice none 0 0, .slice none 0 0, .slice none 0 0]) 128 rfl Try.underlying46 infoFn rfl (by decide) (by decide) _ M (funC row) [.string ⟨#[]⟩, .slice none 0 0, .string ⟨#[]⟩, .slice none 0 0, vI, .slice (some ⟨gb, 0, none⟩) 1 1] (fun _ => True) (fun k => wi.heap.size ≤ k) rfl rfl ?aP ?aK ?aF HF6.out HBW.out HBW.out.size ?aL ?_)
     case aP =>
      refine k26_mkM _ _ _ (funC row) (Kd.R_nil _ _ _ _ _) (Kd.R_nil _ _ _ _ _) (Kd.R_lower (Kd.R_mono (Kd.R_bound HI.out) (fun k hk => hk.2.1)) HB.out.size) (R_one HK.out ?_ HGB.out.1 (Nat.le_trans HB.out.size HGB.out.1))
      refine k40_mkM _ _ _ (blkC row.length) (Kd.R_lower (Kd.R_mono (Kd.R_tight2 rfl (Kd.R_bound HL.out)) (fun k hk => ⟨hk.2.2.1, fun e => Kd.R_ne HL.out HK.out (by decide) (by rw [← e]; exact hk.1)⟩)) HB.out.size)
     case aK => exact fun k hk => ⟨trivial, fun e => by have := HVL.out k e.symm; omega⟩
     case aF => exact fun _ _ => trivial
     case aL => have := HFL.out; unfold LIMS at this; omega
     intro v7 w7 hq7 hb7 hg7 hat7
     obtain ⟨A7, c7, e7⟩ := Kd.R_slice hq7
     subst e7
     rw [show Value.slice A7 (M ++ [funC row]).length c7 = .slice A7 (M.length + 1) c7 by rw [List.length_append, List.length_singleton]] at hq7 ⊢
     have HP7 := Aside0.mk (blk_grown HP6.out hg7 (Kd.R_ne HF6.out HP6.out (by decide)))
     have HZ7 := Aside0.mk (blk_grown HZ6.out hg7 (Kd.R_ne HF6.out HZ6.out (by decide)))
     have HF7 := Aside0.mk hq7; have HB7 := Aside0.mk hb7
     clear hq7 hb7 hg7 hat7 y0 y1 y2 z0 z1 z2 x0 x1 x2 x3 x4 x5 HP6 HZ6 HF6 HG HK HI HL HBI HBW hx0
     obtain ⟨y0, y1, y2, z0, z1, z2⟩ := bk3 HP7.out
     have HP8 := Aside0.mk (blk_put HP7.out 2 (.slice A7 (M.length + 1) c7) rfl)
     have HZ8 := Aside0.mk (blk_far HZ7.out (p := ⟨gp, 2, none⟩) (by have := HGP.out; show w.heap.size ≠ gp; omega) (.slice A7 (M.length + 1) c7))
     have HF8 := Aside0.mk (Kd.R_set HF7.out HP7.out (by decide) 2 (.slice A7 (M.length + 1) c7))
     have HB8 := Aside0.mk (below_set (g := gp) (j := 2) (v := .slice A7 (M.length + 1) c7) HB7.out (by have := HGP.out; omega))
     clear HP7 HZ7 HF7 HB7
     go_wp2
     go_roundg k1
     case measure => omega
     case rel => exact ⟨i + 1, _, by go_num, by omega, HZ8, HP8, ⟨by rw [HEX.out]; exact HF8.out⟩, HB8⟩
  ·have hie : i = l0.length := by omega
   have hF := HF.out
   rw [hie, List.take_length] at hF
   have HF1 := Aside0.mk hF
   obtain ⟨Av, cv, hv⟩ := Kd.R_slice hF
   rw [hv] at HF1 HP
   obtain ⟨y0, y1, y2, _⟩ := bk3 HP.out
   obtain ⟨z0, z1, z2, u0, u1, u2⟩ := bk3 HZ.out
   clear hF hie HF hv
   have hlm : (l0.map funC).length = l0.length := List.length_map _
   rw [hlm] at HF1
   have HZ9 := Aside0.mk (blk_put (blk_put (blk_put HZ.out 0 (.slice none 0 0) rfl) 1 (.slice none 0 0) rfl) 2 (.slice Av l0.length cv) rfl)
   have HF9 := Aside0.mk (Kd.R_set (Kd.R_set (Kd.R_set HF1.out HZ.out (by decide) 0 (.slice none 0 0)) (blk_put HZ.out 0 (.slice none 0 0) rfl) (by decide) 1 (.slice none 0 0)) (blk_put (blk_put HZ.out 0 (.slice none 0 0) rfl) 1 (.slice none 0 0) rfl) (by decide) 2 (.slice Av l0.length cv))
   have HB9 := Aside0.mk (below_set (g := w.heap.size) (j := 2) (v := .slice Av l0.length cv) (below_set (g := w.heap.size) (j := 1) (v := .slice none 0 0) (below_set (g := w.heap.size) (j := 0) (v := .slice none 0 0) HB.out (Nat.le_refl _)) (Nat.le_refl _)) (Nat.le_refl _))
   clear HF1 HZ HB hlm
   go_wp2
   generalize ((wr.setCell ⟨w.heap.size, 0, none⟩ (.slice none 0 0)).setCell ⟨w.heap.size, 1, none⟩ (.slice none 0 0)).setCell ⟨w.heap.size, 2, none⟩ (.slice Av l0.length cv) = w9 at HZ9 HF9 HB9 ⊢
   refine bodyPost_ret (results_cell_row rfl _ _ w.heap.size 48 #[.slice none 0 0, .slice none 0 0, .slice Av l0.length cv] (0, 0) _ rfl HZ9.out Try.underlying48 rfl (by kernel_rfl)) rfl ?_
   exact ⟨_, _, _, rfl, Kd.S_nil _ _ _ _ _, Kd.R_nil _ _ _ _ _, HF9.out, HB9.out⟩
end Go.Proofs.Ytclhjalgflebfaa.Q
namespace Go.Proofs.Ytclhjalgflebfaa.Q
open Go.RowKit Go.Proofs.YtclhjalgflebfaaW.PrintWords Go.Proofs.YtclhjalgflebfaaW.PrintLast Go.Proofs.YtclhjalgflebfaaW.PrintMore
attribute [local go_sem] max2_int min2_int max_two min_two max_three min_three max_four min_four   -- for this text's walks alone
set_option linter.unusedVariables false
set_option linter.unusedSimpArgs false
attribute [local go_sem high] eqA38
/-! ### truantlaw20_awake: function 27 -/
def truantlaw20_awake.f (k : Nat)  : Option (Bool) := (truantlaw20_calls.f (([(([1] : List Int)), (([2, 9] : List Int)), (([1] : List Int)), []] : List (List Int)))).bind fun bt255 => ((scc_Knots.f bt255.1 bt255.2.1 bt255.2.2).bind fun t265 => ((scc_Comes.f bt255.1 bt255.2.1 bt255.2.2 0).bind fun t268 => ((scc_Places.f bt255.1 bt255.2.1 bt255.2.2 1).bind fun t271 => (if (t265.length : Int) = 3 then (if 0 < (t265.length : Int) then (if ((rd_L6 t265 0).length : Int) = 2 then (if 0 < ((rd_L6 t265 0).length : Int) then (if (rd (rd_L6 t265 0) 0) = 1 then (if 1 < ((rd_L6 t265 0).length : Int) then (if (rd (rd_L6 t265 0) 1) = 2 then (if 1 < (t265.length : Int) then (if ((rd_L6 t265 1).length : Int) = 1 then (if 0 < ((rd_L6 t265 1).length : Int) then (if (rd (rd_L6 t265 1) 0) = 0 then (if 2 < (t265.length : Int) then (if 0 < ((rd_L6 t265 2).length : Int) then (if (rd (rd_L6 t265 2) 0) = 3 then (if (t268.length : Int) = 2 then (if (t271.length : Int) = 1 then (if 0 < (t271.length : Int) then (if (((rd_T38 t271 0).f0) == 0 && (((rd_T38 t271 0).f1) == 2)) = true then ((scc_IsLoop.f k bt255.1 bt255.2.1 bt255.2.2 2).bind fun t285 => (if t285 = true then ((scc_IsLoop.f k bt255.1 bt255.2.1 bt255.2.2 0).bind fun t286 => (if t286 = true then (none) else ((scc_Calls.f bt255.1 bt255.2.1 bt255.2.2 1).bind fun t287 => (if (t287.length : Int) = 1 then ((scc_Calls.f bt255.1 bt255.2.1 bt255.2.2 7).bind fun t290 => (some ((t290.length : Int) == 0))) else (none))))) else (none))) else (none)) else (none)) else (none)) else (none)) else (none)) else (none)) else (none)) else (none)) else (none)) else (none)) else (none)) else (none)) else (none)) else (none)) else (none)) else (none)) else (none)) else (none)))))
theorem truantlaw20_awake.mono : ∀ k, LeO (truantlaw20_awake.f k ) (truantlaw20_awake.f (k + 1) ) := by
 intro  k
 unfold truantlaw20_awake.f
 repeat' first
   | (with_reducible exact scc_IsLoop.mono _ _ _ _ _)
   | (with_reducible exact LeO.refl _)
   | (with_reducible exact LeO.none _)
   | (with_reducible refine LeO.ite ?_ ?_)
   | (with_reducible refine LeO.bind ?_ (fun _ => ?_))
   | exact scc_IsLoop.mono _ _ _ _ _
   | exact LeO.none _
   | refine LeO.ite ?_ ?_
   | refine LeO.bind ?_ (fun _ => ?_)
set_option maxHeartbeats 8000000 in
set_option maxRecDepth 100000 in
theorem truantlaw20_awake.calls (k : Nat)  (r : Bool) (w : World) (h : truantlaw20_awake.f k  = some r) :
  Calls Try.prog 27 #[] w fun e w' => e = .returned (.bool r) ∧ Below w.heap.size w w' := by
 have hu48 := Try.underlying48
 have hu38 := Try.underlying38
 have HB := Aside0.mk (Below.refl w.heap.size w)
 have H : ((truantlaw20_calls.f (([(([1] : List Int)), (([2, 9] : List Int)), (([1] : List Int)), []] : List (List Int)))).bind fun bt255 => ((scc_Knots.f bt255.1 bt255.2.1 bt255.2.2).bind fun t265 => ((scc_Comes.f bt255.1 bt255.2.1 bt255.2.2 0).bind fun t268 => ((scc_Places.f bt255.1 bt255.2.1 bt255.2.2 1).bind fun t271 => (if (t265.length : Int) = 3 then (if 0 < (t265.length : Int) then (if ((rd_L6 t265 0).length : Int) = 2 then (if 0 < ((rd_L6 t265 0).length : Int) then (if (rd (rd_L6 t265 0) 0) = 1 then (if 1 < ((rd_L6 t265 0).length : Int) then (if (rd (rd_L6 t265 0) 1) = 2 then (if 1 < (t265.length : Int) then (if ((rd_L6 t265 1).length : Int) = 1 then (if 0 < ((rd_L6 t265 1).length : Int) then (if (rd (rd_L6 t265 1) 0) = 0 then (if 2 < (t265.length : Int) then (if 0 < ((rd_L6 t265 2).length : Int) then (if (rd (rd_L6 t265 2) 0) = 3 then (if (t268.length : Int) = 2 then (if (t271.length : Int) = 1 then (if 0 < (t271.length : Int) then (if (((rd_T38 t271 0).f0) == 0 && (((rd_T38 t271 0).f1) == 2)) = true then ((scc_IsLoop.f k bt255.1 bt255.2.1 bt255.2.2 2).bind fun t285 => (if t285 = true then ((scc_IsLoop.f k bt255.1 bt255.2.1 bt255.2.2 0).bind fun t286 => (if t286 = true then (none) else ((scc_Calls.f bt255.1 bt255.2.1 bt255.2.2 1).bind fun t287 => (if (t287.length : Int) = 1 then ((scc_Calls.f bt255.1 bt255.2.1 bt255.2.2 7).bind fun t290 => (some ((t290.length : Int) == 0))) else (none))))) else (none))) else (none)) else (none)) else (none)) else (none)) else (none)) else (none)) else (none)) else (none)) else (none)) else (none)) else (none)) else (none)) else (none)) else (none)) else (none)) else (none)) else (none)) else (none)))))) = some r := h
 clear h
 obtain ⟨y243, hy243⟩ : ∃ y_ : List Int, y_ = (([1] : List Int)) := ⟨_, rfl⟩
 replace H : ((truantlaw20_calls.f (([y243, (([2, 9] : List Int)), (([1] : List Int)), []] : List (List Int)))).bind fun bt255 => ((scc_Knots.f bt255.1 bt255.2.1 bt255.2.2).bind fun t265 => ((scc_Comes.f bt255.1 bt255.2.1 bt255.2.2 0).bind fun t268 => ((scc_Places.f bt255.1 bt255.2.1 bt255.2.2 1).bind fun t271 => (if (t265.length : Int) = 3 then (if 0 < (t265.length : Int) then (if ((rd_L6 t265 0).length : Int) = 2 then (if 0 < ((rd_L6 t265 0).length : Int) then (if (rd (rd_L6 t265 0) 0) = 1 then (if 1 < ((rd_L6 t265 0).length : Int) then (if (rd (rd_L6 t265 0) 1) = 2 then (if 1 < (t265.length : Int) then (if ((rd_L6 t265 1).length : Int) = 1 then (if 0 < ((rd_L6 t265 1).length : Int) then (if (rd (rd_L6 t265 1) 0) = 0 then (if 2 < (t265.length : Int) then (if 0 < ((rd_L6 t265 2).length : Int) then (if (rd (rd_L6 t265 2) 0) = 3 then (if (t268.length : Int) = 2 then (if (t271.length : Int) = 1 then (if 0 < (t271.length : Int) then (if (((rd_T38 t271 0).f0) == 0 && (((rd_T38 t271 0).f1) == 2)) = true then ((scc_IsLoop.f k bt255.1 bt255.2.1 bt255.2.2 2).bind fun t285 => (if t285 = true then ((scc_IsLoop.f k bt255.1 bt255.2.1 bt255.2.2 0).bind fun t286 => (if t286 = true then (none) else ((scc_Calls.f bt255.1 bt255.2.1 bt255.2.2 1).bind fun t287 => (if (t287.length : Int) = 1 then ((scc_Calls.f bt255.1 bt255.2.1 bt255.2.2 7).bind fun t290 => (some ((t290.length : Int) == 0))) else (none))))) else (none))) else (none)) else (none)) else (none)) else (none)) else (none)) else (none)) else (none)) else (none)) else (none)) else (none)) else (none)) else (none)) else (none)) else (none)) else (none)) else (none)) else (none)) else (none)))))) = some r := by first | (rw [hy243]; with_reducible exact H) | (have H2_ := (Option.bind_some _ _).symm.trans H; rw [hy243]; with_reducible exact H2_) | (have H2_ := (Option.bind_some _ _).symm.trans H; with_reducible exact H2_) | with_reducible exact H | (rw [hy243]; exact H) | exact H
 have Ny243 := Aside0.mk hy243
 clear hy243
 obtain ⟨y246, hy246⟩ : ∃ y_ : List Int, y_ = (([2, 9] : List Int)) := ⟨_, rfl⟩
 replace H : ((truantlaw20_calls.f (([y243, y246, (([1] : List Int)), []] : List (List Int)))).bind fun bt255 => ((scc_Knots.f bt255.1 bt255.2.1 bt255.2.2).bind fun t265 => ((scc_Comes.f bt255.1 bt255.2.1 bt255.2.2 0).bind fun t268 => ((scc_Places.f bt255.1 bt255.2.1 bt255.2.2 1).bind fun t271 => (if (t265.length : Int) = 3 then (if 0 < (t265.length : Int) then (if ((rd_L6 t265 0).length : Int) = 2 then (if 0 < ((rd_L6 t265 0).length : Int) then (if (rd (rd_L6 t265 0) 0) = 1 then (if 1 < ((rd_L6 t265 0).length : Int) then (if (rd (rd_L6 t265 0) 1) = 2 then (if 1 < (t265.length : Int) then (if ((rd_L6 t265 1).length : Int) = 1 then (if 0 < ((rd_L6 t265 1).length : Int) then (if (rd (rd_L6 t265 1) 0) = 0 then (if 2 < (t265.length : Int) then (if 0 < ((rd_L6 t265 2).length : Int) then (if (rd (rd_L6 t265 2) 0) = 3 then (if (t268.length : Int) = 2 then (if (t271.length : Int) = 1 then (if 0 < (t271.length : Int) then (if (((rd_T38 t271 0).f0) == 0 && (((rd_T38 t271 0).f1) == 2)) = true then ((scc_IsLoop.f k bt255.1 bt255.2.1 bt255.2.2 2).bind fun t285 => (if t285 = true then ((scc_IsLoop.f k bt255.1 bt255.2.1 bt255.2.2 0).bind fun t286 => (if t286 = true then (none) else ((scc_Calls.f bt255.1 bt255.2.1 bt255.2.2 1).bind fun t287 => (if (t287.length : Int) = 1 then ((scc_Calls.f bt255.1 bt255.2.1 bt255.2.2 7).bind fun t290 => (some ((t290.length : Int) == 0))) else (none))))) else (none))) else (none)) else (none)) else (none)) else (none)) else (none)) else (none)) else (none)) else (none)) else (none)) else (none)) else (none)) else (none)) else (none)) else (none)) else (none)) else (none)) else (none)) else (none)))))) = some r := by first | (rw [hy246]; with_reducible exact H) | (have H2_ := (Option.bind_some _ _).symm.trans H; rw [hy246]; with_reducible exact H2_) | (have H2_ := (Option.bind_some _ _).symm.trans H; with_reducible exact H2_) | with_reducible exact H | (rw [hy246]; exact H) | exact H
 have Ny246 := Aside0.mk hy246
 clear hy246
 obtain ⟨y249, hy249⟩ : ∃ y_ : List Int, y_ = (([1] : List Int)) := ⟨_, rfl⟩
 replace H : ((truantlaw20_calls.f (([y243, y246, y249, []] : List (List Int)))).bind fun bt255 => ((scc_Knots.f bt255.1 bt255.2.1 bt255.2.2).bind fun t265 => ((scc_Comes.f bt255.1 bt255.2.1 bt255.2.2 0).bind fun t268 => ((scc_Places.f bt255.1 bt255.2.1 bt255.2.2 1).bind fun t271 => (if (t265.length : Int) = 3 then (if 0 < (t265.length : Int) then (if ((rd_L6 t265 0).length : Int) = 2 then (if 0 < ((rd_L6 t265 0).length : Int) then (if (rd (rd_L6 t265 0) 0) = 1 then (if 1 < ((rd_L6 t265 0).length : Int) then (if (rd (rd_L6 t265 0) 1) = 2 then (if 1 < (t265.length : Int) then (if ((rd_L6 t265 1).length : Int) = 1 then (if 0 < ((rd_L6 t265 1).length : Int) then (if (rd (rd_L6 t265 1) 0) = 0 then (if 2 < (t265.length : Int) then (if 0 < ((rd_L6 t265 2).length : Int) then (if (rd (rd_L6 t265 2) 0) = 3 then (if (t268.length : Int) = 2 then (if (t271.length : Int) = 1 then (if 0 < (t271.length : Int) then (if (((rd_T38 t271 0).f0) == 0 && (((rd_T38 t271 0).f1) == 2)) = true then ((scc_IsLoop.f k bt255.1 bt255.2.1 bt255.2.2 2).bind fun t285 => (if t285 = true then ((scc_IsLoop.f k bt255.1 bt255.2.1 bt255.2.2 0).bind fun t286 => (if t286 = true then (none) else ((scc_Calls.f bt255.1 bt255.2.1 bt255.2.2 1).bind fun t287 => (if (t287.length : Int) = 1 then ((scc_Calls.f bt255.1 bt255.2.1 bt255.2.2 7).bind fun t290 => (some ((t290.length : Int) == 0))) else (none))))) else (none))) else (none)) else (none)) else (none)) else (none)) else (none)) else (none)) else (none)) else (none)) else (none)) else (none)) else (none)) else (none)) else (none)) else (none)) else (none)) else (none)) else (none)) else (none)))))) = some r := by first | (rw [hy249]; with_reducible exact H) | (have H2_ := (Option.bind_some _ _).symm.trans H; rw [hy249]; with_reducible exact H2_) | (have H2_ := (Option.bind_some _ _).symm.trans H; with_reducible exact H2_) | with_reducible exact H | (rw [hy249]; exact H) | exact H
 have Ny249 := Aside0.mk hy249
 clear hy249
 obtain ⟨y252, hy252⟩ : ∃ y_ : List (List Int), y_ = (([y243, y246, y249, []] : List (List Int))) := ⟨_, rfl⟩
 replace H : ((truantlaw20_calls.f y252).bind fun bt255 => ((scc_Knots.f bt255.1 bt255.2.1 bt255.2.2).bind fun t265 => ((scc_Comes.f bt255.1 bt255.2.1 bt255.2.2 0).bind fun t268 => ((scc_Places.f bt255.1 bt255.2.1 bt255.2.2 1).bind fun t271 => (if (t265.length : Int) = 3 then (if 0 < (t265.length : Int) then (if ((rd_L6 t265 0).length : Int) = 2 then (if 0 < ((rd_L6 t265 0).length : Int) then (if (rd (rd_L6 t265 0) 0) = 1 then (if 1 < ((rd_L6 t265 0).length : Int) then (if (rd (rd_L6 t265 0) 1) = 2 then (if 1 < (t265.length : Int) then (if ((rd_L6 t265 1).length : Int) = 1 then (if 0 < ((rd_L6 t265 1).length : Int) then (if (rd (rd_L6 t265 1) 0) = 0 then (if 2 < (t265.length : Int) then (if 0 < ((rd_L6 t265 2).length : Int) then (if (rd (rd_L6 t265 2) 0) = 3 then (if (t268.length : Int) = 2 then (if (t271.length : Int) = 1 then (if 0 < (t271.length : Int) then (if (((rd_T38 t271 0).f0) == 0 && (((rd_T38 t271 0).f1) == 2)) = true then ((scc_IsLoop.f k bt255.1 bt255.2.1 bt255.2.2 2).bind fun t285 => (if t285 = true then ((scc_IsLoop.f k bt255.1 bt255.2.1 bt255.2.2 0).bind fun t286 => (if t286 = true then (none) else ((scc_Calls.f bt255.1 bt255.2.1 bt255.2.2 1).bind fun t287 => (if (t287.length : Int) = 1 then ((scc_Calls.f bt255.1 bt255.2.1 bt255.2.2 7).bind fun t290 => (some ((t290.length : Int) == 0))) else (none))))) else (none))) else (none)) else (none)) else (none)) else (none)) else (none)) else (none)) else (none)) else (none)) else (none)) else (none)) else (none)) else (none)) else (none)) else (none)) else (none)) else (none)) else (none)) else (none)))))) = some r := by first | (rw [hy252]; with_reducible exact H) | (have H2_ := (Option.bind_some _ _).symm.trans H; rw [hy252]; with_reducible exact H2_) | (have H2_ := (Option.bind_some _ _).symm.trans H; with_reducible exact H2_) | with_reducible exact H | (rw [hy252]; exact H) | exact H
 have Ny252 := Aside0.mk hy252
 clear hy252
 replace H := Option.bind_eq_some_iff.mp H
 obtain ⟨⟨t255, t258, t261⟩, A10, H⟩ := H
 replace H : ((scc_Knots.f t255 t258 t261).bind fun t265 => ((scc_Comes.f t255 t258 t261 0).bind fun t268 => ((scc_Places.f t255 t258 t261 1).bind fun t271 => (if (t265.length : Int) = 3 then (if 0 < (t265.length : Int) then (if ((rd_L6 t265 0).length : Int) = 2 then (if 0 < ((rd_L6 t265 0).length : Int) then (if (rd (rd_L6 t265 0) 0) = 1 then (if 1 < ((rd_L6 t265 0).length : Int) then (if (rd (rd_L6 t265 0) 1) = 2 then (if 1 < (t265.length : Int) then (if ((rd_L6 t265 1).length : Int) = 1 then (if 0 < ((rd_L6 t265 1).length : Int) then (if (rd (rd_L6 t265 1) 0) = 0 then (if 2 < (t265.length : Int) then (if 0 < ((rd_L6 t265 2).length : Int) then (if (rd (rd_L6 t265 2) 0) = 3 then (if (t268.length : Int) = 2 then (if (t271.length : Int) = 1 then (if 0 < (t271.length : Int) then (if (((rd_T38 t271 0).f0) == 0 && (((rd_T38 t271 0).f1) == 2)) = true then ((scc_IsLoop.f k t255 t258 t261 2).bind fun t285 => (if t285 = true then ((scc_IsLoop.f k t255 t258 t261 0).bind fun t286 => (if t286 = true then (none) else ((scc_Calls.f t255 t258 t261 1).bind fun t287 => (if (t287.length : Int) = 1 then ((scc_Calls.f t255 t258 t261 7).bind fun t290 => (some ((t290.length : Int) == 0))) else (none))))) else (none))) else (none)) else (none)) else (none)) else (none)) else (none)) else (none)) else (none)) else (none)) else (none)) else (none)) else (none)) else (none)) else (none)) else (none)) else (none)) else (none)) else (none)) else (none))))) = some r := H
 have A1 := Aside0.mk A10
 clear A10
 replace H := Option.bind_eq_some_iff.mp H
 obtain ⟨t265, A20, H⟩ := H
 replace H : ((scc_Comes.f t255 t258 t261 0).bind fun t268 => ((scc_Places.f t255 t258 t261 1).bind fun t271 => (if (t265.length : Int) = 3 then (if 0 < (t265.length : Int) then (if ((rd_L6 t265 0).length : Int) = 2 then (if 0 < ((rd_L6 t265 0).length : Int) then (if (rd (rd_L6 t265 0) 0) = 1 then (if 1 < ((rd_L6 t265 0).length : Int) then (if (rd (rd_L6 t265 0) 1) = 2 then (if 1 < (t265.length : Int) then (if ((rd_L6 t265 1).length : Int) = 1 then (if 0 < ((rd_L6 t265 1).length : Int) then (if (rd (rd_L6 t265 1) 0) = 0 then (if 2 < (t265.length : Int) then (if 0 < ((rd_L6 t265 2).length : Int) then (if (rd (rd_L6 t265 2) 0) = 3 then (if (t268.length : Int) = 2 then (if (t271.length : Int) = 1 then (if 0 < (t271.length : Int) then (if (((rd_T38 t271 0).f0) == 0 && (((rd_T38 t271 0).f1) == 2)) = true then ((scc_IsLoop.f k t255 t258 t261 2).bind fun t285 => (if t285 = true then ((scc_IsLoop.f k t255 t258 t261 0).bind fun t286 => (if t286 = true then (none) else ((scc_Calls.f t255 t258 t261 1).bind fun t287 => (if (t287.length : Int) = 1 then ((scc_Calls.f t255 t258 t261 7).bind fun t290 => (some ((t290.length : Int) == 0))) else (none))))) else (none))) else (none)) else (none)) else (none)) else (none)) else (none)) else (none)) else (none)) else (none)) else (none)) else (none)) else (none)) else (none)) else (none)) else (none)) else (none)) else (none)) else (none)) else (none)))) = some r := H
 have A2 := Aside0.mk A20
 clear A20
 replace H := Option.bind_eq_some_iff.mp H
 obtain ⟨t268, A30, H⟩ := H
 replace H : ((scc_Places.f t255 t258 t261 1).bind fun t271 => (if (t265.length : Int) = 3 then (if 0 < (t265.length : Int) then (if ((rd_L6 t265 0).length : Int) = 2 then (if 0 < ((rd_L6 t265 0).length : Int) then (if (rd (rd_L6 t265 0) 0) = 1 then (if 1 < ((rd_L6 t265 0).length : Int) then (if (rd (rd_L6 t265 0) 1) = 2 then (if 1 < (t265.length : Int) then (if ((rd_L6 t265 1).length : Int) = 1 then (if 0 < ((rd_L6 t265 1).length : Int) then (if (rd (rd_L6 t265 1) 0) = 0 then (if 2 < (t265.length : Int) then (if 0 < ((rd_L6 t265 2).length : Int) then (if (rd (rd_L6 t265 2) 0) = 3 then (if (t268.length : Int) = 2 then (if (t271.length : Int) = 1 then (if 0 < (t271.length : Int) then (if (((rd_T38 t271 0).f0) == 0 && (((rd_T38 t271 0).f1) == 2)) = true then ((scc_IsLoop.f k t255 t258 t261 2).bind fun t285 => (if t285 = true then ((scc_IsLoop.f k t255 t258 t261 0).bind fun t286 => (if t286 = true then (none) else ((scc_Calls.f t255 t258 t261 1).bind fun t287 => (if (t287.length : Int) = 1 then ((scc_Calls.f t255 t258 t261 7).bind fun t290 => (some ((t290.length : Int) == 0))) else (none))))) else (none))) else (none)) else (none)) else (none)) else (none)) else (none)) else (none)) else (none)) else (none)) else (none)) else (none)) else (none)) else (none)) else (none)) else (none)) else (none)) else (none)) else (none)) else (none))) = some r := H
 have A3 := Aside0.mk A30
 clear A30
 replace H := Option.bind_eq_some_iff.mp H
 obtain ⟨t271, A40, H⟩ := H
 replace H : (if (t265.length : Int) = 3 then (if 0 < (t265.length : Int) then (if ((rd_L6 t265 0).length : Int) = 2 then (if 0 < ((rd_L6 t265 0).length : Int) then (if (rd (rd_L6 t265 0) 0) = 1 then (if 1 < ((rd_L6 t265 0).length : Int) then (if (rd (rd_L6 t265 0) 1) = 2 then (if 1 < (t265.length : Int) then (if ((rd_L6 t265 1).length : Int) = 1 then (if 0 < ((rd_L6 t265 1).length : Int) then (if (rd (rd_L6 t265 1) 0) = 0 then (if 2 < (t265.length : Int) then (if 0 < ((rd_L6 t265 2).length : Int) then (if (rd (rd_L6 t265 2) 0) = 3 then (if (t268.length : Int) = 2 then (if (t271.length : Int) = 1 then (if 0 < (t271.length : Int) then (if (((rd_T38 t271 0).f0) == 0 && (((rd_T38 t271 0).f1) == 2)) = true then ((scc_IsLoop.f k t255 t258 t261 2).bind fun t285 => (if t285 = true then ((scc_IsLoop.f k t255 t258 t261 0).bind fun t286 => (if t286 = true then (none) else ((scc_Calls.f t255 t258 t261 1).bind fun t287 => (if (t287.length : Int) = 1 then ((scc_Calls.f t255 t258 t261 7).bind fun t290 => (some ((t290.length : Int) == 0))) else (none))))) else (none))) else (none)) else (none)) else (none)) else (none)) else (none)) else (none)) else (none)) else (none)) else (none)) else (none)) else (none)) else (none)) else (none)) else (none)) else (none)) else (none)) else (none)) else (none)) = some r := H
 have A4 := Aside0.mk A40
 clear A40
 by_cases c5 : (t265.length : Int) = 3
 ·rw [if_pos c5] at H
  have c5b0 : ((t265.length : Int) == 3) = true := beq_iff_eq.mpr c5
  have c5b1 : ((t265.length : Int) != 3) = false := bne_eq_false_iff_eq.mpr c5
  clear c5
  by_cases c6 : 0 < (t265.length : Int)
  ·rw [if_pos c6] at H
   have c6b0 : decide (0 < (t265.length : Int)) = true := decide_eq_true c6
   have c6b1 : decide (0 < t265.length) = true := decide_eq_true (by omega)
   clear c6
   by_cases c7 : ((rd_L6 t265 0).length : Int) = 2
   ·rw [if_pos c7] at H
    have c7b0 : (((rd_L6 t265 0).length : Int) == 2) = true := beq_iff_eq.mpr c7
    have c7b1 : (((rd_L6 t265 0).length : Int) != 2) = false := bne_eq_false_iff_eq.mpr c7
    clear c7
    by_cases c8 : 0 < ((rd_L6 t265 0).length : Int)
    ·rw [if_pos c8] at H
     have c8b0 : decide (0 < ((rd_L6 t265 0).length : Int)) = true := decide_eq_true c8
     have c8b1 : decide (0 < (rd_L6 t265 0).length) = true := decide_eq_true (by omega)
     clear c8
     by_cases c9 : (rd (rd_L6 t265 0) 0) = 1
     ·rw [if_pos c9] at H
      have c9b0 : ((rd (rd_L6 t265 0) 0) == 1) = true := beq_iff_eq.mpr c9
      have c9b1 : ((rd (rd_L6 t265 0) 0) != 1) = false := bne_eq_false_iff_eq.mpr c9
      clear c9
      by_cases c10 : 1 < ((rd_L6 t265 0).length : Int)
      ·rw [if_pos c10] at H
       have c10b0 : decide (1 < ((rd_L6 t265 0).length : Int)) = true := decide_eq_true c10
       have c10b1 : decide (1 < (rd_L6 t265 0).length) = true := decide_eq_true (by omega)
       clear c10
       by_cases c11 : (rd (rd_L6 t265 0) 1) = 2
       ·rw [if_pos c11] at H
        have c11b0 : ((rd (rd_L6 t265 0) 1) == 2) = true := beq_iff_eq.mpr c11
        have c11b1 : ((rd (rd_L6 t265 0) 1) != 2) = false := bne_eq_false_iff_eq.mpr c11
        clear c11
        by_cases c12 : 1 < (t265.length : Int)
        ·rw [if_pos c12] at H
         have c12b0 : decide (1 < (t265.length : Int)) = true := decide_eq_true c12
         have c12b1 : decide (1 < t265.length) = true := decide_eq_true (by omega)
         clear c12
         by_cases c13 : ((rd_L6 t265 1).length : Int) = 1
         ·rw [if_pos c13] at H
          have c13b0 : (((rd_L6 t265 1).length : Int) == 1) = true := beq_iff_eq.mpr c13
          have c13b1 : (((rd_L6 t265 1).length : Int) != 1) = false := bne_eq_false_iff_eq.mpr c13
          clear c13
          by_cases c14 : 0 < ((rd_L6 t265 1).length : Int)
          ·rw [if_pos c14] at H
           have c14b0 : decide (0 < ((rd_L6 t265 1).length : Int)) = true := decide_eq_true c14
           have c14b1 : decide (0 < (rd_L6 t265 1).length) = true := decide_eq_true (by omega)
           clear c14
           by_cases c15 : (rd (rd_L6 t265 1) 0) = 0
           ·rw [if_pos c15] at H
            have c15b0 : ((rd (rd_L6 t265 1) 0) == 0) = true := beq_iff_eq.mpr c15
            have c15b1 : ((rd (rd_L6 t265 1) 0) != 0) = false := bne_eq_false_iff_eq.mpr c15
            clear c15
            by_cases c16 : 2 < (t265.length : Int)
            ·rw [if_pos c16] at H
             have c16b0 : decide (2 < (t265.length : Int)) = true := decide_eq_true c16
             have c16b1 : decide (2 < t265.length) = true := decide_eq_true (by omega)
             clear c16
             by_cases c17 : 0 < ((rd_L6 t265 2).length : Int)
             ·rw [if_pos c17] at H
              have c17b0 : decide (0 < ((rd_L6 t265 2).length : Int)) = true := decide_eq_true c17
              have c17b1 : decide (0 < (rd_L6 t265 2).length) = true := decide_eq_true (by omega)
              clear c17
              by_cases c18 : (rd (rd_L6 t265 2) 0) = 3
              ·rw [if_pos c18] at H
               have c18b0 : ((rd (rd_L6 t265 2) 0) == 3) = true := beq_iff_eq.mpr c18
               have c18b1 : ((rd (rd_L6 t265 2) 0) != 3) = false := bne_eq_false_iff_eq.mpr c18
               clear c18
               by_cases c19 : (t268.length : Int) = 2
               ·rw [if_pos c19] at H
                have c19b0 : ((t268.length : Int) == 2) = true := beq_iff_eq.mpr c19
                have c19b1 : ((t268.length : Int) != 2) = false := bne_eq_false_iff_eq.mpr c19
                clear c19
                by_cases c20 : (t271.length : Int) = 1
                ·rw [if_pos c20] at H
                 have c20b0 : ((t271.length : Int) == 1) = true := beq_iff_eq.mpr c20
                 have c20b1 : ((t271.length : Int) != 1) = false := bne_eq_false_iff_eq.mpr c20
                 clear c20
                 by_cases c21 : 0 < (t271.length : Int)
                 ·rw [if_pos c21] at H
                  have c21b0 : decide (0 < (t271.length : Int)) = true := decide_eq_true c21
                  have c21b1 : decide (0 < t271.length) = true := decide_eq_true (by omega)
                  clear c21
                  by_cases c22 : (((rd_T38 t271 0).f0) == 0 && (((rd_T38 t271 0).f1) == 2)) = true
                  ·rw [if_pos c22] at H
                   have c22b0 : (((rd_T38 t271 0).f0) == 0 && (((rd_T38 t271 0).f1) == 2)) = true := c22
                   (try (have c22b1 : decide (((rd_T38 t271 0).f0) = 0 && (((rd_T38 t271 0).f1) == 2)) = true := by simpa using c22))
                   (try (have c22b2 : (((rd_T38 t271 0).f0) == 0 && (((rd_T38 t271 0).f1) == 2)) = true := by simpa using c22))
                   clear c22
                   replace H := Option.bind_eq_some_iff.mp H
                   obtain ⟨t285, A230, H⟩ := H
                   replace H : (if t285 = true then ((scc_IsLoop.f k t255 t258 t261 0).bind fun t286 => (if t286 = true then (none) else ((scc_Calls.f t255 t258 t261 1).bind fun t287 => (if (t287.length : Int) = 1 then ((scc_Calls.f t255 t258 t261 7).bind fun t290 => (some ((t290.length : Int) == 0))) else (none))))) else (none)) = some r := H
                   have A23 := Aside0.mk A230
                   clear A230
                   by_cases c24 : t285 = true
                   ·subst c24
                    have H1 : ((scc_IsLoop.f k t255 t258 t261 0).bind fun t286 => (if t286 = true then (none) else ((scc_Calls.f t255 t258 t261 1).bind fun t287 => (if (t287.length : Int) = 1 then ((scc_Calls.f t255 t258 t261 7).bind fun t290 => (some ((t290.length : Int) == 0))) else (none))))) = some r := by rw [if_pos rfl] at H; exact H
                    clear H
                    have H := H1
                    clear H1
                    replace H := Option.bind_eq_some_iff.mp H
                    obtain ⟨t286, A250, H⟩ := H
                    replace H : (if t286 = true then (none) else ((scc_Calls.f t255 t258 t261 1).bind fun t287 => (if (t287.length : Int) = 1 then ((scc_Calls.f t255 t258 t261 7).bind fun t290 => (some ((t290.length : Int) == 0))) else (none)))) = some r := H
                    have A25 := Aside0.mk A250
                    clear A250
                    by_cases c26 : t286 = true
                    ·subst c26
                     have H1 : (none) = some r := by rw [if_pos rfl] at H; exact H
                     clear H
                     have H := H1
                     clear H1
                     exact absurd H (by simp)
                    ·replace c26 := Bool.eq_false_iff.mpr c26
                     subst c26
                     have H1 : ((scc_Calls.f t255 t258 t261 1).bind fun t287 => (if (t287.length : Int) = 1 then ((scc_Calls.f t255 t258 t261 7).bind fun t290 => (some ((t290.length : Int) == 0))) else (none))) = some r := by rw [if_neg (show ¬ (false = true) by decide)] at H; exact H
                     clear H
                     have H := H1
                     clear H1
                     replace H := Option.bind_eq_some_iff.mp H
                     obtain ⟨t287, A270, H⟩ := H
                     replace H : (if (t287.length : Int) = 1 then ((scc_Calls.f t255 t258 t261 7).bind fun t290 => (some ((t290.length : Int) == 0))) else (none)) = some r := H
                     have A27 := Aside0.mk A270
                     clear A270
                     by_cases c28 : (t287.length : Int) = 1
                     ·rw [if_pos c28] at H
                      have c28b0 : ((t287.length : Int) == 1) = true := beq_iff_eq.mpr c28
                      have c28b1 : ((t287.length : Int) != 1) = false := bne_eq_false_iff_eq.mpr c28
                      clear c28
                      replace H := Option.bind_eq_some_iff.mp H
                      obtain ⟨t290, A290, H⟩ := H
                      replace H : (some ((t290.length : Int) == 0)) = some r := H
                      have A29 := Aside0.mk A290
                      clear A290
                      obtain rfl := Option.some.inj H
                      go_enter Try.func27, Try.ntmps27
                      go_wp2_with (first | ((with_reducible refine gate_dst (N := 5) rfl ?_); (try (refine gate_guard (by rfl) ?_; dsimp only)); refine Kd.R_lit (Kd.int .i64) _ 3 ?hg (N := 5) ?hd (xs := ([1] : List Int)) (inner := [.int .i64 1]) (ok := fun _ => True) (okp := fun _ => True) ?hr ?hp (fun _ hk => hk) trivial (Below.refl _ _) (Nat.le_refl _) (by simp) ?_; (case hd => rfl); (case hg => rfl); (case hr => first | (go_simp; done) | (go_simp; rfl)); (case hp => exact (Reps.one (show Kd.M (Kd.int .i64) _ _ _ 1 [.int .i64 1] from rfl) (Reps.none _ _))); intro v244 w30 ho31 hb hg_ hnew_; clear hg_ hnew_; (first | rw [← Ny243.out] at ho31 | (simp only [Int.reduceToNat] at ho31; rw [← Ny243.out] at ho31)); have n0_ := Aside0.mk (Kd.R_lower ho31 (below_size (by repeat (first | (with_reducible first | exact HB.out | apply below_alloc | apply pw_below_drewN | apply below_drew1) | exact HB.out)))); have n1_ := Aside0.mk (below_step (by repeat (first | (with_reducible first | exact HB.out | apply below_alloc | apply pw_below_drewN | apply below_drew1) | exact HB.out)) hb); clear HB; have HO245 := n0_; have HB := n1_; clear n0_ n1_; clear hb ho31) | ((with_reducible refine gate_dst (N := 6) rfl ?_); (try (refine gate_guard (by rfl) ?_; dsimp only)); refine Kd.R_lit (Kd.int .i64) _ 3 ?hg (N := 6) ?hd (xs := ([2, 9] : List Int)) (inner := [.int .i64 2, .int .i64 9]) (ok := fun _ => True) (okp := fun _ => True) ?hr ?hp (fun _ hk => hk) trivial (Below.refl _ _) (Nat.le_refl _) (by simp) ?_; (case hd => rfl); (case hg => rfl); (case hr => first | (go_simp; done) | (go_simp; rfl)); (case hp => exact (Reps.one (show Kd.M (Kd.int .i64) _ _ _ 2 [.int .i64 2] from rfl) (Reps.one (show Kd.M (Kd.int .i64) _ _ _ 9 [.int .i64 9] from rfl) (Reps.none _ _)))); intro v247 w32 ho33 hb hg_ hnew_; clear hg_ hnew_; (first | rw [← Ny246.out] at ho33 | (simp only [Int.reduceToNat] at ho33; rw [← Ny246.out] at ho33)); have n0_ := Aside0.mk (Kd.R_elder' (by (with_reducible repeat (first | apply Kd.R_alloc | apply Kd.R_drewN | apply Kd.R_drew)); exact HO245.out) (Kd.R_base ho33) hb); have n1_ := Aside0.mk (Kd.R_lower (Kd.R_new' ho33 (Kd.R_lt (by (with_reducible repeat (first | apply Kd.R_alloc | apply Kd.R_drewN | apply Kd.R_drew)); exact HO245.out))) (below_size (by repeat (first | (with_reducible first | exact HB.out | apply below_alloc | apply pw_below_drewN | apply below_drew1) | exact HB.out)))); have n2_ := Aside0.mk (below_step (by repeat (first | (with_reducible first | exact HB.out | apply below_alloc | apply pw_below_drewN | apply below_drew1) | exact HB.out)) hb); clear HO245; clear HB; have HO245 := n0_; have HO248 := n1_; have HB := n2_; clear n0_ n1_ n2_; clear hb ho33) | ((with_reducible refine gate_dst (N := 7) rfl ?_); (try (refine gate_guard (by rfl) ?_; dsimp only)); refine Kd.R_lit (Kd.int .i64) _ 3 ?hg (N := 7) ?hd (xs := ([1] : List Int)) (inner := [.int .i64 1]) (ok := fun _ => True) (okp := fun _ => True) ?hr ?hp (fun _ hk => hk) trivial (Below.refl _ _) (Nat.le_refl _) (by simp) ?_; (case hd => rfl); (case hg => rfl); (case hr => first | (go_simp; done) | (go_simp; rfl)); (case hp => exact (Reps.one (show Kd.M (Kd.int .i64) _ _ _ 1 [.int .i64 1] from rfl) (Reps.none _ _))); intro v250 w34 ho35 hb hg_ hnew_; clear hg_ hnew_; (first | rw [← Ny249.out] at ho35 | (simp only [Int.reduceToNat] at ho35; rw [← Ny249.out] at ho35)); have n0_ := Aside0.mk (Kd.R_elder' (by (with_reducible repeat (first | apply Kd.R_alloc | apply Kd.R_drewN | apply Kd.R_drew)); exact HO245.out) (Kd.R_base ho35) hb); have n1_ := Aside0.mk (Kd.R_elder' (by (with_reducible repeat (first | apply Kd.R_alloc | apply Kd.R_drewN | apply Kd.R_drew)); exact HO248.out) (Kd.R_base ho35) hb); have n2_ := Aside0.mk (Kd.R_lower (Kd.R_new' (Kd.R_new' ho35 (Kd.R_lt (by (with_reducible repeat (first | apply Kd.R_alloc | apply Kd.R_drewN | apply Kd.R_drew)); exact HO245.out))) (Kd.R_lt (by (with_reducible repeat (first | apply Kd.R_alloc | apply Kd.R_drewN | apply Kd.R_drew)); exact HO248.out))) (below_size (by repeat (first | (with_reducible first | exact HB.out | apply below_alloc | apply pw_below_drewN | apply below_drew1) | exact HB.out)))); have n3_ := Aside0.mk (below_step (by repeat (first | (with_reducible first | exact HB.out | apply below_alloc | apply pw_below_drewN | apply below_drew1) | exact HB.out)) hb); clear HO245; clear HO248; clear HB; have HO245 := n0_; have HO248 := n1_; have HO251 := n2_; have HB := n3_; clear n0_ n1_ n2_ n3_; clear hb ho35; obtain ⟨Ao36, co36, eo36⟩ := Kd.R_slice HO245.out; subst eo36; obtain ⟨Ao37, co37, eo37⟩ := Kd.R_slice HO248.out; subst eo37; obtain ⟨Ao38, co38, eo38⟩ := Kd.R_slice HO251.out; subst eo38) | ((with_reducible refine gate_dst (N := 8) rfl ?_); (try (refine gate_guard (by rfl) ?_; dsimp only)); refine Kd.N_lit (Kd.slice 3 (Kd.int .i64)) _ 34 ?hg (N' := 8) ?hd (xs := ([y243, y246, y249, []] : List (List Int))) (inner := [.slice Ao36 y243.length co36, .slice Ao37 y246.length co37, .slice Ao38 y249.length co38, .slice none 0 0]) (ok := (fun _ => True)) (okp := (fun _ => True)) ?hr ?hp (fun _ hk => hk) ((show ∀ k_, w34.heap.size ≤ k_ → (fun _ => True) k_ from fun k_ hk => trivial) _ (Nat.le_refl _)) (Below.refl _ _) (Nat.le_refl _) (by simp) ?_; (case hd => rfl); (case hg => rfl); (case hr => first | (go_simp; done) | (go_simp; rfl)); (case hp => exact (Reps.one (show Kd.FK (Kd.slice 3 (Kd.int .i64)) _ _ y243 [.slice Ao36 y243.length co36] from (Kd.FK_slice_mk (Kd.R_reads' (Kd.R_mono (ok' := (fun _ => True)) (HO245.out) (fun k_ hk => trivial))).2.1 (Kd.R_F (Kd.R_mono (ok' := (fun _ => True)) (HO245.out) (fun k_ hk => trivial))))) (Reps.one (show Kd.FK (Kd.slice 3 (Kd.int .i64)) _ _ y246 [.slice Ao37 y246.length co37] from (Kd.FK_slice_mk (Kd.R_reads' (Kd.R_mono (ok' := (fun _ => True)) (HO248.out) (fun k_ hk => trivial))).2.1 (Kd.R_F (Kd.R_mono (ok' := (fun _ => True)) (HO248.out) (fun k_ hk => trivial))))) (Reps.one (show Kd.FK (Kd.slice 3 (Kd.int .i64)) _ _ y249 [.slice Ao38 y249.length co38] from (Kd.FK_slice_mk (Kd.R_reads' (Kd.R_mono (ok' := (fun _ => True)) (HO251.out) (fun k_ hk => trivial))).2.1 (Kd.R_F (Kd.R_mono (ok' := (fun _ => True)) (HO251.out) (fun k_ hk => trivial))))) (Reps.one (show Kd.FK (Kd.slice 3 (Kd.int .i64)) _ _ [] [.slice none 0 0] from (Kd.FK_slice_mk (Nat.le_refl _) (Kd.F_nil _ _ _))) (Reps.none _ _)))))); intro v253 w39 ho40 hb hg_ hnew_; clear hg_ hnew_; (first | rw [← Ny252.out] at ho40 | (simp only [Int.reduceToNat] at ho40; rw [← Ny252.out] at ho40)); have n0_ := Aside0.mk (Kd.N_lower ho40 (below_size (by repeat (first | (with_reducible first | exact HB.out | apply below_alloc | apply pw_below_drewN | apply below_drew1) | exact HB.out)))); have n1_ := Aside0.mk (below_step (by repeat (first | (with_reducible first | exact HB.out | apply below_alloc | apply pw_below_drewN | apply below_drew1) | exact HB.out)) hb); clear HB; clear HO245; clear HO248; clear HO251; have HO254 := n0_; have HB := n1_; clear n0_ n1_; clear hb ho40; obtain ⟨Ao41, co41, eo41⟩ := Kd.N_slice HO254.out; subst eo41) | ((with_reducible refine gate_callee (f := 56) rfl ?_); refine goesL_ (some 9) rfl rfl Try.func56 (by kernel_rfl) rfl #[.slice Ao41 y252.length co41] rfl (by (try simp only [List.map_toArray, List.map_cons, List.map_nil]); first | done | rfl | (simp only [List.length_drop, List.length_take]; rfl)) ?_; (with_reducible refine (truantlaw20_calls.calls _ _ y252 t255 t258 t261 _ ?side1 ?side2 A1.out).mono ?_); (case side1 => repeat (first | exact (Kd.N_reads' HO254.out).2.2 | (with_reducible refine Kd.C_alloc ?_ _) | (with_reducible refine Kd.C_drewN ?_ _) | (with_reducible refine Kd.C_drew ?_))); (case side2 => exact (Kd.N_reads' HO254.out).2.1); rintro e w42 ⟨v256, v259, v262, rfl, ho0, ho1, ho2, hb⟩; refine ⟨_, rfl, ?_⟩; have n0_ := Aside0.mk (Kd.N_mono (Kd.N_told (Kd.N_told (Kd.N_told (Kd.N_old (by (with_reducible repeat (first | apply Kd.N_alloc | apply Kd.N_drewN | apply Kd.N_drew)); exact HO254.out) hb) (by first | exact Kd.N_base ho0 | exact Kd.S_base ho0 | exact Kd.R_base ho0)) (Kd.R_base ho1)) (by first | exact Kd.N_base ho2 | exact Kd.S_base ho2 | exact Kd.R_base ho2)) (fun _ h_ => h_.1)); have n1_ := Aside0.mk (Kd.N_lower (Kd.N_mono (ok' := fun k_ => some k_ ≠ (v259 : Value).ownBlock ∧ some k_ ≠ (v262 : Value).ownBlock ∧ some k_ ≠ (.slice Ao41 y252.length co41 : Value).ownBlock) (Kd.S_N (Kd.S_bound (Kd.S_apart' ho0 (Kd.R_typed ho2) (by decide)))) (fun k_ hk_ => ⟨hk_.1.1, hk_.1.2, (Kd.fresh' (Kd.N_lt (by (with_reducible repeat (first | apply Kd.N_alloc | apply Kd.N_drewN | apply Kd.N_drew)); exact HO254.out)) k_ hk_.2.1)⟩)) (below_size (by repeat (first | (with_reducible first | exact HB.out | apply below_alloc | apply pw_below_drewN | apply below_drew1) | exact HB.out)))); have n2_ := Aside0.mk (Kd.R_lower ho1 (below_size (by repeat (first | (with_reducible first | exact HB.out | apply below_alloc | apply pw_below_drewN | apply below_drew1) | exact HB.out)))); have n3_ := Aside0.mk (Kd.N_lower (Kd.N_mono (ok' := fun k_ => some k_ ≠ (v256 : Value).ownBlock ∧ some k_ ≠ (v259 : Value).ownBlock ∧ some k_ ≠ (.slice Ao41 y252.length co41 : Value).ownBlock) (Kd.R_N (Kd.R_bound (Kd.R_apart' (Kd.R_apart' ho2 (Kd.S_typed ho0) (by decide)) (Kd.R_typed ho1) (by decide)))) (fun k_ hk_ => ⟨hk_.1.1.2, hk_.1.2, (Kd.fresh' (Kd.N_lt (by (with_reducible repeat (first | apply Kd.N_alloc | apply Kd.N_drewN | apply Kd.N_drew)); exact HO254.out)) k_ hk_.2.1)⟩)) (below_size (by repeat (first | (with_reducible first | exact HB.out | apply below_alloc | apply pw_below_drewN | apply below_drew1) | exact HB.out)))); have n4_ := Aside0.mk (below_step (by repeat (first | (with_reducible first | exact HB.out | apply below_alloc | apply pw_below_drewN | apply below_drew1) | exact HB.out)) hb); clear HO254; clear HB; have HO254 := n0_; have HO257 := n1_; have HO260 := n2_; have HO263 := n3_; have HB := n4_; clear n0_ n1_ n2_ n3_ n4_; (try clear hb); (try clear hb2); (try clear hk); (try clear hi); (try clear ho0); (try clear ho1); (try clear ho2)) | ((with_reducible refine gate_dst (N := 1) rfl ?_); (try (refine gate_guard (by rfl) ?_; dsimp only)); refine box_event ?hg (N := 1) ?hd (cs := #[.slice none 0 0, .slice none 0 0, .slice none 0 0]) (t := 48) ?hr ?_; (case hd => rfl); (case hg => rfl); (case hr => first | (go_simp; done) | (go_simp; rfl)); intro gb264 hg w43 hbox hb; have n0_ := Aside0.mk (Kd.N_below (Kd.N_elderB (by (with_reducible repeat (first | apply Kd.N_alloc | apply Kd.N_drewN | apply Kd.N_drew)); exact HO254.out) gb264 (Nat.le_of_eq hg.symm)) hb); have n1_ := Aside0.mk (Kd.N_below (Kd.N_elderB (by (with_reducible repeat (first | apply Kd.N_alloc | apply Kd.N_drewN | apply Kd.N_drew)); exact HO257.out) gb264 (Nat.le_of_eq hg.symm)) hb); have n2_ := Aside0.mk (Kd.R_below (by (with_reducible repeat (first | apply Kd.R_alloc | apply Kd.R_drewN | apply Kd.R_drew)); exact HO260.out) hb); have n3_ := Aside0.mk (Kd.N_below (Kd.N_elderB (by (with_reducible repeat (first | apply Kd.N_alloc | apply Kd.N_drewN | apply Kd.N_drew)); exact HO263.out) gb264 (Nat.le_of_eq hg.symm)) hb); have n4_ := Aside0.mk (below_step (by repeat (first | (with_reducible first | exact HB.out | apply below_alloc | apply pw_below_drewN | apply below_drew1) | exact HB.out)) hb); have n5_ := Aside0.mk (hbox); have n6_ := Aside0.mk ((by rw [hg]; exact (below_size (by repeat (first | (with_reducible first | exact HB.out | apply below_alloc | apply pw_below_drewN | apply below_drew1) | exact HB.out))) : w.heap.size ≤ gb264)); have n7_ := Aside0.mk ((by rw [hg]; exact (below_size (by repeat (first | (with_reducible first | exact HB.out | apply below_alloc | apply pw_below_drewN | apply below_drew1) | exact HB.out))) : w.heap.size ≤ gb264)); clear HO254; clear HO257; clear HO260; clear HO263; clear HB; have HO254 := n0_; have HO257 := n1_; have HO260 := n2_; have HO263 := n3_; have HB := n4_; have BK264 := n5_; have GW264 := n6_; have GE264 := n7_; clear n0_ n1_ n2_ n3_ n4_ n5_ n6_ n7_; clear hb hbox hg; obtain ⟨Ao44, co44, eo44⟩ := Kd.N_slice HO257.out; subst eo44; have hcz45_0 : w43.cell? ⟨gb264, 0, none⟩ = some (.slice none 0 0) := (blk_cell BK264.out 0).trans rfl; have hcz45_1 : w43.cell? ⟨gb264, 1, none⟩ = some (.slice none 0 0) := (blk_cell BK264.out 1).trans rfl; have hcz45_2 : w43.cell? ⟨gb264, 2, none⟩ = some (.slice none 0 0) := (blk_cell BK264.out 2).trans rfl; have hfz45_0 := blk_frozen BK264.out 0; have hfz45_1 := blk_frozen BK264.out 1; have hfz45_2 := blk_frozen BK264.out 2; obtain ⟨Ao46, co46, eo46⟩ := Kd.R_slice HO260.out; subst eo46; obtain ⟨Ao47, co47, eo47⟩ := Kd.N_slice HO263.out; subst eo47) | ((with_reducible refine gate_callee (f := 35) rfl ?_); refine goesL_ (some 11) rfl rfl Try.func35 (by kernel_rfl) rfl #[.agg #[.slice Ao44 t255.length co44, .slice Ao46 t258.length co46, .slice Ao47 t261.length co47]] rfl (by (try simp only [List.map_toArray, List.map_cons, List.map_nil]); first | done | rfl | (simp only [List.length_drop, List.length_take]; rfl)) ?_; (with_reducible refine (scc_Knots.calls _ _ t255 _ _ t258 _ _ t261 t265 _ ?side1 ?side2 ?side3 ?side4 ?side5 ?side6 A2.out).mono ?_); (case side1 => refine (Kd.N_reads' (e := 150) (base := w.heap.size) (ok := fun k_ => ((some k_ ≠ (.slice Ao46 t258.length co46 : Value).ownBlock ∧ (some k_ ≠ (.slice Ao47 t261.length co47 : Value).ownBlock ∧ some k_ ≠ (.slice Ao41 y252.length co41 : Value).ownBlock)) ∧ k_ ≠ gb264)) (n := t255.length) (c := co44) ?_).2.2; exact (by (with_reducible repeat (first | apply Kd.N_alloc | apply Kd.N_drewN | apply Kd.N_drew)); exact (Kd.N_mono (Kd.N_far (p := ⟨gb264, 2, none⟩) (Kd.N_far (p := ⟨gb264, 1, none⟩) (Kd.N_far (p := ⟨gb264, 0, none⟩) (Kd.N_mono HO257.out (fun k_ hk => (⟨hk, hk.2⟩ : _ ∧ k_ ≠ gb264))) (fun _ hk => hk.2) (.slice Ao44 t255.length co44)) (fun _ hk => hk.2) (.slice Ao46 t258.length co46)) (fun _ hk => hk.2) (.slice Ao47 t261.length co47)) (fun _ h_ => h_.1)))); (case side2 => exact (Kd.N_reads' HO257.out).2.1); (case side3 => refine (Kd.R_reads' (e := 152) (base := w.heap.size) (ok := fun k_ => True) (n := t258.length) (c := co46) ?_).2.2; exact (by (with_reducible repeat (first | apply Kd.R_alloc | apply Kd.R_drewN | apply Kd.R_drew)); exact (Kd.R_mono (Kd.R_far (p := ⟨gb264, 2, none⟩) (Kd.R_far (p := ⟨gb264, 1, none⟩) (Kd.R_far (p := ⟨gb264, 0, none⟩) (Kd.R_types HO260.out BK264.out (by decide)) (fun _ hk => hk.2) (.slice Ao44 t255.length co44)) (fun _ hk => hk.2) (.slice Ao46 t258.length co46)) (fun _ hk => hk.2) (.slice Ao47 t261.length co47)) (fun _ h_ => h_.1)))); (case side4 => exact (Kd.R_reads' HO260.out).2.1); (case side5 => refine (Kd.N_reads' (e := 26) (base := w.heap.size) (ok := fun k_ => ((some k_ ≠ (.slice Ao44 t255.length co44 : Value).ownBlock ∧ (some k_ ≠ (.slice Ao46 t258.length co46 : Value).ownBlock ∧ some k_ ≠ (.slice Ao41 y252.length co41 : Value).ownBlock)) ∧ k_ ≠ gb264)) (n := t261.length) (c := co47) ?_).2.2; exact (by (with_reducible repeat (first | apply Kd.N_alloc | apply Kd.N_drewN | apply Kd.N_drew)); exact (Kd.N_mono (Kd.N_far (p := ⟨gb264, 2, none⟩) (Kd.N_far (p := ⟨gb264, 1, none⟩) (Kd.N_far (p := ⟨gb264, 0, none⟩) (Kd.N_mono HO263.out (fun k_ hk => (⟨hk, hk.2⟩ : _ ∧ k_ ≠ gb264))) (fun _ hk => hk.2) (.slice Ao44 t255.length co44)) (fun _ hk => hk.2) (.slice Ao46 t258.length co46)) (fun _ hk => hk.2) (.slice Ao47 t261.length co47)) (fun _ h_ => h_.1)))); (case side6 => exact (Kd.N_reads' HO263.out).2.1); rintro e w48 ⟨v266, rfl, ho0, hb⟩; refine ⟨_, rfl, ?_⟩; have n0_ := Aside0.mk (Kd.N_elder' (by (with_reducible repeat (first | apply Kd.N_alloc | apply Kd.N_drewN | apply Kd.N_drew)); exact (Kd.N_mono (Kd.N_far (p := ⟨gb264, 2, none⟩) (Kd.N_far (p := ⟨gb264, 1, none⟩) (Kd.N_far (p := ⟨gb264, 0, none⟩) (Kd.N_mono HO254.out (fun k_ hk => (⟨hk, hk.2⟩ : _ ∧ k_ ≠ gb264))) (fun _ hk => hk.2) (.slice Ao44 t255.length co44)) (fun _ hk => hk.2) (.slice Ao46 t258.length co46)) (fun _ hk => hk.2) (.slice Ao47 t261.length co47)) (fun _ h_ => h_.1))) (by first | exact Kd.N_base ho0 | exact Kd.S_base ho0 | exact Kd.R_base ho0) hb); have n1_ := Aside0.mk (Kd.N_elder' (by (with_reducible repeat (first | apply Kd.N_alloc | apply Kd.N_drewN | apply Kd.N_drew)); exact (Kd.N_mono (Kd.N_far (p := ⟨gb264, 2, none⟩) (Kd.N_far (p := ⟨gb264, 1, none⟩) (Kd.N_far (p := ⟨gb264, 0, none⟩) (Kd.N_mono HO257.out (fun k_ hk => (⟨hk, hk.2⟩ : _ ∧ k_ ≠ gb264))) (fun _ hk => hk.2) (.slice Ao44 t255.length co44)) (fun _ hk => hk.2) (.slice Ao46 t258.length co46)) (fun _ hk => hk.2) (.slice Ao47 t261.length co47)) (fun _ h_ => h_.1))) (by first | exact Kd.N_base ho0 | exact Kd.S_base ho0 | exact Kd.R_base ho0) hb); have n2_ := Aside0.mk (Kd.R_below (by (with_reducible repeat (first | apply Kd.R_alloc | apply Kd.R_drewN | apply Kd.R_drew)); exact (Kd.R_mono (Kd.R_far (p := ⟨gb264, 2, none⟩) (Kd.R_far (p := ⟨gb264, 1, none⟩) (Kd.R_far (p := ⟨gb264, 0, none⟩) (Kd.R_types HO260.out BK264.out (by decide)) (fun _ hk => hk.2) (.slice Ao44 t255.length co44)) (fun _ hk => hk.2) (.slice Ao46 t258.length co46)) (fun _ hk => hk.2) (.slice Ao47 t261.length co47)) (fun _ h_ => h_.1))) hb); have n3_ := Aside0.mk (Kd.N_elder' (by (with_reducible repeat (first | apply Kd.N_alloc | apply Kd.N_drewN | apply Kd.N_drew)); exact (Kd.N_mono (Kd.N_far (p := ⟨gb264, 2, none⟩) (Kd.N_far (p := ⟨gb264, 1, none⟩) (Kd.N_far (p := ⟨gb264, 0, none⟩) (Kd.N_mono HO263.out (fun k_ hk => (⟨hk, hk.2⟩ : _ ∧ k_ ≠ gb264))) (fun _ hk => hk.2) (.slice Ao44 t255.length co44)) (fun _ hk => hk.2) (.slice Ao46 t258.length co46)) (fun _ hk => hk.2) (.slice Ao47 t261.length co47)) (fun _ h_ => h_.1))) (by first | exact Kd.N_base ho0 | exact Kd.S_base ho0 | exact Kd.R_base ho0) hb); have n4_ := Aside0.mk (Kd.N_lower (Kd.N_mono (ok' := fun k_ => some k_ ≠ (.slice Ao41 y252.length co41 : Value).ownBlock ∧ some k_ ≠ (.slice Ao44 t255.length co44 : Value).ownBlock ∧ some k_ ≠ (.slice Ao46 t258.length co46 : Value).ownBlock ∧ some k_ ≠ (.slice Ao47 t261.length co47 : Value).ownBlock ∧ k_ ≠ gb264) (Kd.S_N (Kd.S_bound ho0)) (fun k_ hk_ => ⟨(Kd.fresh' (Kd.N_lt (by (with_reducible repeat (first | apply Kd.N_alloc | apply Kd.N_drewN | apply Kd.N_drew)); exact (Kd.N_mono (Kd.N_far (p := ⟨gb264, 2, none⟩) (Kd.N_far (p := ⟨gb264, 1, none⟩) (Kd.N_far (p := ⟨gb264, 0, none⟩) (Kd.N_mono HO254.out (fun k_ hk => (⟨hk, hk.2⟩ : _ ∧ k_ ≠ gb264))) (fun _ hk => hk.2) (.slice Ao44 t255.length co44)) (fun _ hk => hk.2) (.slice Ao46 t258.length co46)) (fun _ hk => hk.2) (.slice Ao47 t261.length co47)) (fun _ h_ => h_.1)))) k_ hk_.2.1), (Kd.fresh' (Kd.N_lt (by (with_reducible repeat (first | apply Kd.N_alloc | apply Kd.N_drewN | apply Kd.N_drew)); exact (Kd.N_mono (Kd.N_far (p := ⟨gb264, 2, none⟩) (Kd.N_far (p := ⟨gb264, 1, none⟩) (Kd.N_far (p := ⟨gb264, 0, none⟩) (Kd.N_mono HO257.out (fun k_ hk => (⟨hk, hk.2⟩ : _ ∧ k_ ≠ gb264))) (fun _ hk => hk.2) (.slice Ao44 t255.length co44)) (fun _ hk => hk.2) (.slice Ao46 t258.length co46)) (fun _ hk => hk.2) (.slice Ao47 t261.length co47)) (fun _ h_ => h_.1)))) k_ hk_.2.1), (Kd.fresh' (Kd.R_lt (by (with_reducible repeat (first | apply Kd.R_alloc | apply Kd.R_drewN | apply Kd.R_drew)); exact (Kd.R_mono (Kd.R_far (p := ⟨gb264, 2, none⟩) (Kd.R_far (p := ⟨gb264, 1, none⟩) (Kd.R_far (p := ⟨gb264, 0, none⟩) (Kd.R_types HO260.out BK264.out (by decide)) (fun _ hk => hk.2) (.slice Ao44 t255.length co44)) (fun _ hk => hk.2) (.slice Ao46 t258.length co46)) (fun _ hk => hk.2) (.slice Ao47 t261.length co47)) (fun _ h_ => h_.1)))) k_ hk_.2.1), (Kd.fresh' (Kd.N_lt (by (with_reducible repeat (first | apply Kd.N_alloc | apply Kd.N_drewN | apply Kd.N_drew)); exact (Kd.N_mono (Kd.N_far (p := ⟨gb264, 2, none⟩) (Kd.N_far (p := ⟨gb264, 1, none⟩) (Kd.N_far (p := ⟨gb264, 0, none⟩) (Kd.N_mono HO263.out (fun k_ hk => (⟨hk, hk.2⟩ : _ ∧ k_ ≠ gb264))) (fun _ hk => hk.2) (.slice Ao44 t255.length co44)) (fun _ hk => hk.2) (.slice Ao46 t258.length co46)) (fun _ hk => hk.2) (.slice Ao47 t261.length co47)) (fun _ h_ => h_.1)))) k_ hk_.2.1), (Kd.freshB (g := gb264) (o := .cells #[.slice Ao44 t255.length co44, .slice Ao46 t258.length co46, .slice Ao47 t261.length co47] 48 (0, 0)) (by (with_reducible repeat (first | refine blk_drewN ?_ _ | refine blk_drew ?_ | refine blk_alloc ?_ _)); refine blk_put (cs := #[.slice Ao44 t255.length co44, .slice Ao46 t258.length co46, .slice none 0 0]) ?_ 2 _ rfl; (with_reducible repeat (first | refine blk_drewN ?_ _ | refine blk_drew ?_ | refine blk_alloc ?_ _)); refine blk_put (cs := #[.slice Ao44 t255.length co44, .slice none 0 0, .slice none 0 0]) ?_ 1 _ rfl; (with_reducible repeat (first | refine blk_drewN ?_ _ | refine blk_drew ?_ | refine blk_alloc ?_ _)); refine blk_put (cs := #[.slice none 0 0, .slice none 0 0, .slice none 0 0]) ?_ 0 _ rfl; (with_reducible repeat (first | refine blk_drewN ?_ _ | refine blk_drew ?_ | refine blk_alloc ?_ _)); exact BK264.out) k_ hk_.2.1)⟩)) (below_size (by repeat (first | (with_reducible first | exact HB.out | apply below_alloc | apply pw_below_drewN | apply below_drew1 | refine below_set ?_ GE264.out) | exact HB.out)))); have n5_ := Aside0.mk (blk_below (g := gb264) (o := .cells #[.slice Ao44 t255.length co44, .slice Ao46 t258.length co46, .slice Ao47 t261.length co47] 48 (0, 0)) (by (with_reducible repeat (first | refine blk_drewN ?_ _ | refine blk_drew ?_ | refine blk_alloc ?_ _)); refine blk_put (cs := #[.slice Ao44 t255.length co44, .slice Ao46 t258.length co46, .slice none 0 0]) ?_ 2 _ rfl; (with_reducible repeat (first | refine blk_drewN ?_ _ | refine blk_drew ?_ | refine blk_alloc ?_ _)); refine blk_put (cs := #[.slice Ao44 t255.length co44, .slice none 0 0, .slice none 0 0]) ?_ 1 _ rfl; (with_reducible repeat (first | refine blk_drewN ?_ _ | refine blk_drew ?_ | refine blk_alloc ?_ _)); refine blk_put (cs := #[.slice none 0 0, .slice none 0 0, .slice none 0 0]) ?_ 0 _ rfl; (with_reducible repeat (first | refine blk_drewN ?_ _ | refine blk_drew ?_ | refine blk_alloc ?_ _)); exact BK264.out) hb); have n6_ := Aside0.mk (below_step (by repeat (first | (with_reducible first | exact HB.out | apply below_alloc | apply pw_below_drewN | apply below_drew1 | refine below_set ?_ GE264.out) | exact HB.out)) hb); clear HO254; clear HO257; clear HO260; clear HO263; clear BK264; clear HB; have HO254 := n0_; have HO257 := n1_; have HO260 := n2_; have HO263 := n3_; have HO267 := n4_; have BK264 := n5_; have HB := n6_; clear n0_ n1_ n2_ n3_ n4_ n5_ n6_; (try clear hb); (try clear hb2); (try clear hk); (try clear hi); (try clear ho0); have hcz49_0 : w48.cell? ⟨gb264, 0, none⟩ = some (.slice Ao44 t255.length co44) := (blk_cell BK264.out 0).trans rfl; have hcz49_1 : w48.cell? ⟨gb264, 1, none⟩ = some (.slice Ao46 t258.length co46) := (blk_cell BK264.out 1).trans rfl; have hcz49_2 : w48.cell? ⟨gb264, 2, none⟩ = some (.slice Ao47 t261.length co47) := (blk_cell BK264.out 2).trans rfl; have hfz49_0 := blk_frozen BK264.out 0; have hfz49_1 := blk_frozen BK264.out 1; have hfz49_2 := blk_frozen BK264.out 2) | ((with_reducible refine gate_callee (f := 32) rfl ?_); refine goesL_ (some 13) rfl rfl Try.func32 (by kernel_rfl) rfl #[.agg #[.slice Ao44 t255.length co44, .slice Ao46 t258.length co46, .slice Ao47 t261.length co47], .int .i64 0] rfl (by (try simp only [List.map_toArray, List.map_cons, List.map_nil]); first | done | rfl | (simp only [List.length_drop, List.length_take]; rfl)) ?_; (with_reducible refine (scc_Comes.calls _ _ t255 _ _ t258 _ _ t261 0 t268 _ ?side1 ?side2 ?side3 ?side4 ?side5 ?side6 A3.out).mono ?_); (case side1 => repeat (first | exact (Kd.N_reads' HO257.out).2.2 | (with_reducible refine Kd.C_alloc ?_ _) | (with_reducible refine Kd.C_drewN ?_ _) | (with_reducible refine Kd.C_drew ?_))); (case side2 => exact (Kd.N_reads' HO257.out).2.1); (case side3 => repeat (first | exact (Kd.R_reads' HO260.out).2.2 | (with_reducible refine Kd.C_alloc ?_ _) | (with_reducible refine Kd.C_drewN ?_ _) | (with_reducible refine Kd.C_drew ?_))); (case side4 => exact (Kd.R_reads' HO260.out).2.1); (case side5 => repeat (first | exact (Kd.N_reads' HO263.out).2.2 | (with_reducible refine Kd.C_alloc ?_ _) | (with_reducible refine Kd.C_drewN ?_ _) | (with_reducible refine Kd.C_drew ?_))); (case side6 => exact (Kd.N_reads' HO263.out).2.1); rintro e w50 ⟨v269, rfl, ho0, hb⟩; refine ⟨_, rfl, ?_⟩; have n0_ := Aside0.mk (Kd.N_elder' (by (with_reducible repeat (first | apply Kd.N_alloc | apply Kd.N_drewN | apply Kd.N_drew)); exact HO254.out) (Kd.R_base ho0) hb); have n1_ := Aside0.mk (Kd.N_elder' (by (with_reducible repeat (first | apply Kd.N_alloc | apply Kd.N_drewN | apply Kd.N_drew)); exact HO257.out) (Kd.R_base ho0) hb); have n2_ := Aside0.mk (Kd.R_below (by (with_reducible repeat (first | apply Kd.R_alloc | apply Kd.R_drewN | apply Kd.R_drew)); exact HO260.out) hb); have n3_ := Aside0.mk (Kd.N_elder' (by (with_reducible repeat (first | apply Kd.N_alloc | apply Kd.N_drewN | apply Kd.N_drew)); exact HO263.out) (Kd.R_base ho0) hb); have n4_ := Aside0.mk (Kd.N_elder' (by (with_reducible repeat (first | apply Kd.N_alloc | apply Kd.N_drewN | apply Kd.N_drew)); exact HO267.out) (Kd.R_base ho0) hb); have n5_ := Aside0.mk (Kd.R_lower ho0 (below_size (by repeat (first | (with_reducible first | exact HB.out | apply below_alloc | apply pw_below_drewN | apply below_drew1 | refine below_set ?_ GE264.out) | exact HB.out)))); have n6_ := Aside0.mk (blk_below (g := gb264) (o := .cells #[.slice Ao44 t255.length co44, .slice Ao46 t258.length co46, .slice Ao47 t261.length co47] 48 (0, 0)) (by (with_reducible repeat (first | refine blk_drewN ?_ _ | refine blk_drew ?_ | refine blk_alloc ?_ _)); exact BK264.out) hb); have n7_ := Aside0.mk (below_step (by repeat (first | (with_reducible first | exact HB.out | apply below_alloc | apply pw_below_drewN | apply below_drew1 | refine below_set ?_ GE264.out) | exact HB.out)) hb); clear HO254; clear HO257; clear HO260; clear HO263; clear HO267; clear BK264; clear HB; have HO254 := n0_; have HO257 := n1_; have HO260 := n2_; have HO263 := n3_; have HO267 := n4_; have HO270 := n5_; have BK264 := n6_; have HB := n7_; clear n0_ n1_ n2_ n3_ n4_ n5_ n6_ n7_; (try clear hb); (try clear hb2); (try clear hk); (try clear hi); (try clear ho0); have hcz51_0 : w50.cell? ⟨gb264, 0, none⟩ = some (.slice Ao44 t255.length co44) := (blk_cell BK264.out 0).trans rfl; have hcz51_1 : w50.cell? ⟨gb264, 1, none⟩ = some (.slice Ao46 t258.length co46) := (blk_cell BK264.out 1).trans rfl; have hcz51_2 : w50.cell? ⟨gb264, 2, none⟩ = some (.slice Ao47 t261.length co47) := (blk_cell BK264.out 2).trans rfl; have hfz51_0 := blk_frozen BK264.out 0; have hfz51_1 := blk_frozen BK264.out 1; have hfz51_2 := blk_frozen BK264.out 2) | ((with_reducible refine gate_callee (f := 29) rfl ?_); refine goesL_ (some 15) rfl rfl Try.func29 (by kernel_rfl) rfl #[.agg #[.slice Ao44 t255.length co44, .slice Ao46 t258.length co46, .slice Ao47 t261.length co47], .int .i64 1] rfl (by (try simp only [List.map_toArray, List.map_cons, List.map_nil]); first | done | rfl | (simp only [List.length_drop, List.length_take]; rfl)) ?_; (with_reducible refine (scc_Places.calls _ _ t255 _ _ t258 _ _ t261 1 t271 _ ?side1 ?side2 ?side3 ?side4 ?side5 ?side6 A4.out).mono ?_); (case side1 => repeat (first | exact (Kd.N_reads' HO257.out).2.2 | (with_reducible refine Kd.C_alloc ?_ _) | (with_reducible refine Kd.C_drewN ?_ _) | (with_reducible refine Kd.C_drew ?_))); (case side2 => exact (Kd.N_reads' HO257.out).2.1); (case side3 => repeat (first | exact (Kd.R_reads' HO260.out).2.2 | (with_reducible refine Kd.C_alloc ?_ _) | (with_reducible refine Kd.C_drewN ?_ _) | (with_reducible refine Kd.C_drew ?_))); (case side4 => exact (Kd.R_reads' HO260.out).2.1); (case side5 => repeat (first | exact (Kd.N_reads' HO263.out).2.2 | (with_reducible refine Kd.C_alloc ?_ _) | (with_reducible refine Kd.C_drewN ?_ _) | (with_reducible refine Kd.C_drew ?_))); (case side6 => exact (Kd.N_reads' HO263.out).2.1); rintro e w52 ⟨v272, rfl, ho0, hb⟩; refine ⟨_, rfl, ?_⟩; have n0_ := Aside0.mk (Kd.N_elder' (by (with_reducible repeat (first | apply Kd.N_alloc | apply Kd.N_drewN | apply Kd.N_drew)); exact HO254.out) (Kd.R_base ho0) hb); have n1_ := Aside0.mk (Kd.N_elder' (by (with_reducible repeat (first | apply Kd.N_alloc | apply Kd.N_drewN | apply Kd.N_drew)); exact HO257.out) (Kd.R_base ho0) hb); have n2_ := Aside0.mk (Kd.R_below (by (with_reducible repeat (first | apply Kd.R_alloc | apply Kd.R_drewN | apply Kd.R_drew)); exact HO260.out) hb); have n3_ := Aside0.mk (Kd.N_elder' (by (with_reducible repeat (first | apply Kd.N_alloc | apply Kd.N_drewN | apply Kd.N_drew)); exact HO263.out) (Kd.R_base ho0) hb); have n4_ := Aside0.mk (Kd.N_elder' (by (with_reducible repeat (first | apply Kd.N_alloc | apply Kd.N_drewN | apply Kd.N_drew)); exact HO267.out) (Kd.R_base ho0) hb); have n5_ := Aside0.mk (Kd.R_below (by (with_reducible repeat (first | apply Kd.R_alloc | apply Kd.R_drewN | apply Kd.R_drew)); exact HO270.out) hb); have n6_ := Aside0.mk (Kd.R_lower ho0 (below_size (by repeat (first | (with_reducible first | exact HB.out | apply below_alloc | apply pw_below_drewN | apply below_drew1 | refine below_set ?_ GE264.out) | exact HB.out)))); have n7_ := Aside0.mk (blk_below (g := gb264) (o := .cells #[.slice Ao44 t255.length co44, .slice Ao46 t258.length co46, .slice Ao47 t261.length co47] 48 (0, 0)) (by (with_reducible repeat (first | refine blk_drewN ?_ _ | refine blk_drew ?_ | refine blk_alloc ?_ _)); exact BK264.out) hb); have n8_ := Aside0.mk (below_step (by repeat (first | (with_reducible first | exact HB.out | apply below_alloc | apply pw_below_drewN | apply below_drew1 | refine below_set ?_ GE264.out) | exact HB.out)) hb); clear HO254; clear HO257; clear HO260; clear HO263; clear HO267; clear HO270; clear BK264; clear HB; have HO254 := n0_; have HO257 := n1_; have HO260 := n2_; have HO263 := n3_; have HO267 := n4_; have HO270 := n5_; have HO273 := n6_; have BK264 := n7_; have HB := n8_; clear n0_ n1_ n2_ n3_ n4_ n5_ n6_ n7_ n8_; (try clear hb); (try clear hb2); (try clear hk); (try clear hi); (try clear ho0); obtain ⟨Ao53, co53, eo53⟩ := Kd.N_slice HO267.out; subst eo53; have p274 : 0 ≤ (0 : Int) := (by omega); have q274 : 0 < (t265.length : Int) := of_decide_eq_true (by first | (with_reducible assumption) | assumption); obtain ⟨ad274, A274_0, c274_0, e274, hx274_0, hl274_0, hi274_0⟩ := at_L6 (Kd.N_reads' HO267.out).2.2 0 p274 q274; cases e274; obtain ⟨ce274, hce274, hMe274, hcc274⟩ := Kd.N_get HO267.out [] 0 p274 (by first | exact q274 | exact of_decide_eq_true (by first | (with_reducible assumption) | assumption) | (have e_ := (Kd.N_reads' HO267.out).1; omega)); obtain ⟨ua274_0, uc274_0, rfl, ul274_0, ge274_0⟩ := Kd.FK_slice_open hMe274; have hv274_0 := hcc274 0 _ rfl; rw [Nat.add_zero, show ((Kd.slice 3 (Kd.int .i64))).sz = 1 from rfl, Nat.mul_one] at hv274_0; replace hv274_0 := Option.some.inj (hv274_0.symm.trans hx274_0); injection hv274_0 with hva_ hvn_ hvc_; rw [hva_] at ge274_0; rw [hvc_] at ul274_0; have HL274_0 := Aside0.mk (show Kd.V (Kd.int .i64) 3 _ w.heap.size _ _ (rd_L6 t265 0) from Kd.V_mk ul274_0 ge274_0); clear hva_ hvn_ hvc_ ge274_0 ul274_0; clear hcc274 hce274; have qi274 : (0 < t265.length) = True := eq_true (by omega); (try rw [show ((0 : Int)).toNat = 0 from rfl] at hx274_0); (try rw [Addr.add_zero'] at hx274_0); have HR274_0 := Aside0.mk hi274_0; have HC274_0 := Aside0.mk hl274_0; clear hi274_0 hl274_0; replace p274 := eq_true p274; replace q274 := eq_true q274; have p275 : 0 ≤ (0 : Int) := (by omega); have q275 : 0 < (t265.length : Int) := of_decide_eq_true (by first | (with_reducible assumption) | assumption); obtain ⟨ad275, A275_0, c275_0, e275, hx275_0, hl275_0, hi275_0⟩ := at_L6 (Kd.N_reads' HO267.out).2.2 0 p275 q275; obtain rfl : ad274 = ad275 := (by injection e275); obtain ⟨ce275, hce275, hMe275, hcc275⟩ := Kd.N_get HO267.out [] 0 p275 (by first | exact q275 | exact of_decide_eq_true (by first | (with_reducible assumption) | assumption) | (have e_ := (Kd.N_reads' HO267.out).1; omega)); obtain ⟨ua275_0, uc275_0, rfl, ul275_0, ge275_0⟩ := Kd.FK_slice_open hMe275; have hv275_0 := hcc275 0 _ rfl; rw [Nat.add_zero, show ((Kd.slice 3 (Kd.int .i64))).sz = 1 from rfl, Nat.mul_one] at hv275_0; replace hv275_0 := Option.some.inj (hv275_0.symm.trans hx275_0); injection hv275_0 with hva_ hvn_ hvc_; rw [hva_] at ge275_0; rw [hvc_] at ul275_0; have HL275_0 := Aside0.mk (show Kd.V (Kd.int .i64) 3 _ w.heap.size _ _ (rd_L6 t265 0) from Kd.V_mk ul275_0 ge275_0); clear hva_ hvn_ hvc_ ge275_0 ul275_0; clear hcc275 hce275; have qi275 : (0 < t265.length) = True := eq_true (by omega); (try rw [show ((0 : Int)).toNat = 0 from rfl] at hx275_0); (try rw [Addr.add_zero'] at hx275_0); have HR275_0 := Aside0.mk hi275_0; have HC275_0 := Aside0.mk hl275_0; clear hi275_0 hl275_0; replace p275 := eq_true p275; replace q275 := eq_true q275; have ea_ := Option.some.inj (hx274_0.symm.trans hx275_0); injection ea_ with ea_ en_ ec_; subst ea_; subst ec_; clear en_; have p276 : 0 ≤ (0 : Int) := (by omega); have q276 : 0 < ((rd_L6 t265 0).length : Int) := of_decide_eq_true (by first | (with_reducible assumption) | assumption); obtain ⟨ad276, e276, hx276_0⟩ := Kd.at_int (by repeat (first | (with_reducible exact HR275_0.out) | (with_reducible refine Kd.C_alloc ?_ _) | (with_reducible refine Kd.C_drewN ?_ _) | (with_reducible refine Kd.C_drew ?_) | exact HR275_0.out)) 0 p276 q276; cases e276; have qi276 : (0 < (rd_L6 t265 0).length) = True := eq_true (by omega); (try rw [show ((0 : Int)).toNat = 0 from rfl] at hx276_0); (try rw [Addr.add_zero'] at hx276_0); replace p276 := eq_true p276; replace q276 := eq_true q276; have p277 : 0 ≤ (0 : Int) := (by omega); have q277 : 0 < (t265.length : Int) := of_decide_eq_true (by first | (with_reducible assumption) | assumption); obtain ⟨ad277, A277_0, c277_0, e277, hx277_0, hl277_0, hi277_0⟩ := at_L6 (Kd.N_reads' HO267.out).2.2 0 p277 q277; obtain rfl : ad274 = ad277 := (by injection e277); obtain ⟨ce277, hce277, hMe277, hcc277⟩ := Kd.N_get HO267.out [] 0 p277 (by first | exact q277 | exact of_decide_eq_true (by first | (with_reducible assumption) | assumption) | (have e_ := (Kd.N_reads' HO267.out).1; omega)); obtain ⟨ua277_0, uc277_0, rfl, ul277_0, ge277_0⟩ := Kd.FK_slice_open hMe277; have hv277_0 := hcc277 0 _ rfl; rw [Nat.add_zero, show ((Kd.slice 3 (Kd.int .i64))).sz = 1 from rfl, Nat.mul_one] at hv277_0; replace hv277_0 := Option.some.inj (hv277_0.symm.trans hx277_0); injection hv277_0 with hva_ hvn_ hvc_; rw [hva_] at ge277_0; rw [hvc_] at ul277_0; have HL277_0 := Aside0.mk (show Kd.V (Kd.int .i64) 3 _ w.heap.size _ _ (rd_L6 t265 0) from Kd.V_mk ul277_0 ge277_0); clear hva_ hvn_ hvc_ ge277_0 ul277_0; clear hcc277 hce277; have qi277 : (0 < t265.length) = True := eq_true (by omega); (try rw [show ((0 : Int)).toNat = 0 from rfl] at hx277_0); (try rw [Addr.add_zero'] at hx277_0); have HR277_0 := Aside0.mk hi277_0; have HC277_0 := Aside0.mk hl277_0; clear hi277_0 hl277_0; replace p277 := eq_true p277; replace q277 := eq_true q277; have ea_ := Option.some.inj (hx274_0.symm.trans hx277_0); injection ea_ with ea_ en_ ec_; subst ea_; subst ec_; clear en_; have p278 : 0 ≤ (1 : Int) := (by omega); have q278 : 1 < ((rd_L6 t265 0).length : Int) := of_decide_eq_true (by first | (with_reducible assumption) | assumption); obtain ⟨ad278, e278, hx278_0⟩ := Kd.at_int (by repeat (first | (with_reducible exact HR277_0.out) | (with_reducible refine Kd.C_alloc ?_ _) | (with_reducible refine Kd.C_drewN ?_ _) | (with_reducible refine Kd.C_drew ?_) | exact HR277_0.out)) 1 p278 q278; cases e278; (try simp only [show (1 : Int).toNat = 1 from rfl, Nat.reduceMul, Nat.reduceEqDiff, Go.Addr.add, ↓reduceIte] at hx278_0); have qi278 : (1 < (rd_L6 t265 0).length) = True := eq_true (by omega); (try rw [show ((1 : Int)).toNat = 1 from rfl] at hx278_0); replace p278 := eq_true p278; replace q278 := eq_true q278; have p279 : 0 ≤ (1 : Int) := (by omega); have q279 : 1 < (t265.length : Int) := of_decide_eq_true (by first | (with_reducible assumption) | assumption); obtain ⟨ad279, A279_0, c279_0, e279, hx279_0, hl279_0, hi279_0⟩ := at_L6 (Kd.N_reads' HO267.out).2.2 1 p279 q279; obtain rfl : ad274 = ad279 := (by injection e279); obtain ⟨ce279, hce279, hMe279, hcc279⟩ := Kd.N_get HO267.out [] 1 p279 (by first | exact q279 | exact of_decide_eq_true (by first | (with_reducible assumption) | assumption) | (have e_ := (Kd.N_reads' HO267.out).1; omega)); obtain ⟨ua279_0, uc279_0, rfl, ul279_0, ge279_0⟩ := Kd.FK_slice_open hMe279; have hv279_0 := hcc279 0 _ rfl; rw [Nat.add_zero, show ((Kd.slice 3 (Kd.int .i64))).sz = 1 from rfl, Nat.mul_one] at hv279_0; replace hv279_0 := Option.some.inj (hv279_0.symm.trans hx279_0); injection hv279_0 with hva_ hvn_ hvc_; rw [hva_] at ge279_0; rw [hvc_] at ul279_0; have HL279_0 := Aside0.mk (show Kd.V (Kd.int .i64) 3 _ w.heap.size _ _ (rd_L6 t265 1) from Kd.V_mk ul279_0 ge279_0); clear hva_ hvn_ hvc_ ge279_0 ul279_0; clear hcc279 hce279; (try simp only [show (1 : Int).toNat = 1 from rfl, Nat.reduceMul, Nat.reduceEqDiff, Go.Addr.add, ↓reduceIte] at hx279_0); have qi279 : (1 < t265.length) = True := eq_true (by omega); (try rw [show ((1 : Int)).toNat = 1 from rfl] at hx279_0); have HR279_0 := Aside0.mk hi279_0; have HC279_0 := Aside0.mk hl279_0; clear hi279_0 hl279_0; replace p279 := eq_true p279; replace q279 := eq_true q279; have p280 : 0 ≤ (1 : Int) := (by omega); have q280 : 1 < (t265.length : Int) := of_decide_eq_true (by first | (with_reducible assumption) | assumption); obtain ⟨ad280, A280_0, c280_0, e280, hx280_0, hl280_0, hi280_0⟩ := at_L6 (Kd.N_reads' HO267.out).2.2 1 p280 q280; obtain rfl : ad274 = ad280 := (by injection e280); obtain ⟨ce280, hce280, hMe280, hcc280⟩ := Kd.N_get HO267.out [] 1 p280 (by first | exact q280 | exact of_decide_eq_true (by first | (with_reducible assumption) | assumption) | (have e_ := (Kd.N_reads' HO267.out).1; omega)); obtain ⟨ua280_0, uc280_0, rfl, ul280_0, ge280_0⟩ := Kd.FK_slice_open hMe280; have hv280_0 := hcc280 0 _ rfl; rw [Nat.add_zero, show ((Kd.slice 3 (Kd.int .i64))).sz = 1 from rfl, Nat.mul_one] at hv280_0; replace hv280_0 := Option.some.inj (hv280_0.symm.trans hx280_0); injection hv280_0 with hva_ hvn_ hvc_; rw [hva_] at ge280_0; rw [hvc_] at ul280_0; have HL280_0 := Aside0.mk (show Kd.V (Kd.int .i64) 3 _ w.heap.size _ _ (rd_L6 t265 1) from Kd.V_mk ul280_0 ge280_0); clear hva_ hvn_ hvc_ ge280_0 ul280_0; clear hcc280 hce280; (try simp only [show (1 : Int).toNat = 1 from rfl, Nat.reduceMul, Nat.reduceEqDiff, Go.Addr.add, ↓reduceIte] at hx280_0); have qi280 : (1 < t265.length) = True := eq_true (by omega); (try rw [show ((1 : Int)).toNat = 1 from rfl] at hx280_0); have HR280_0 := Aside0.mk hi280_0; have HC280_0 := Aside0.mk hl280_0; clear hi280_0 hl280_0; replace p280 := eq_true p280; replace q280 := eq_true q280; have ea_ := Option.some.inj (hx279_0.symm.trans hx280_0); injection ea_ with ea_ en_ ec_; subst ea_; subst ec_; clear en_; have p281 : 0 ≤ (0 : Int) := (by omega); have q281 : 0 < ((rd_L6 t265 1).length : Int) := of_decide_eq_true (by first | (with_reducible assumption) | assumption); obtain ⟨ad281, e281, hx281_0⟩ := Kd.at_int (by repeat (first | (with_reducible exact HR280_0.out) | (with_reducible refine Kd.C_alloc ?_ _) | (with_reducible refine Kd.C_drewN ?_ _) | (with_reducible refine Kd.C_drew ?_) | exact HR280_0.out)) 0 p281 q281; cases e281; have qi281 : (0 < (rd_L6 t265 1).length) = True := eq_true (by omega); (try rw [show ((0 : Int)).toNat = 0 from rfl] at hx281_0); (try rw [Addr.add_zero'] at hx281_0); replace p281 := eq_true p281; replace q281 := eq_true q281; have p282 : 0 ≤ (2 : Int) := (by omega); have q282 : 2 < (t265.length : Int) := of_decide_eq_true (by first | (with_reducible assumption) | assumption); obtain ⟨ad282, A282_0, c282_0, e282, hx282_0, hl282_0, hi282_0⟩ := at_L6 (Kd.N_reads' HO267.out).2.2 2 p282 q282; obtain rfl : ad274 = ad282 := (by injection e282); obtain ⟨ce282, hce282, hMe282, hcc282⟩ := Kd.N_get HO267.out [] 2 p282 (by first | exact q282 | exact of_decide_eq_true (by first | (with_reducible assumption) | assumption) | (have e_ := (Kd.N_reads' HO267.out).1; omega)); obtain ⟨ua282_0, uc282_0, rfl, ul282_0, ge282_0⟩ := Kd.FK_slice_open hMe282; have hv282_0 := hcc282 0 _ rfl; rw [Nat.add_zero, show ((Kd.slice 3 (Kd.int .i64))).sz = 1 from rfl, Nat.mul_one] at hv282_0; replace hv282_0 := Option.some.inj (hv282_0.symm.trans hx282_0); injection hv282_0 with hva_ hvn_ hvc_; rw [hva_] at ge282_0; rw [hvc_] at ul282_0; have HL282_0 := Aside0.mk (show Kd.V (Kd.int .i64) 3 _ w.heap.size _ _ (rd_L6 t265 2) from Kd.V_mk ul282_0 ge282_0); clear hva_ hvn_ hvc_ ge282_0 ul282_0; clear hcc282 hce282; (try simp only [show (2 : Int).toNat = 2 from rfl, Nat.reduceMul, Nat.reduceEqDiff, Go.Addr.add, ↓reduceIte] at hx282_0); have qi282 : (2 < t265.length) = True := eq_true (by omega); (try rw [show ((2 : Int)).toNat = 2 from rfl] at hx282_0); have HR282_0 := Aside0.mk hi282_0; have HC282_0 := Aside0.mk hl282_0; clear hi282_0 hl282_0; replace p282 := eq_true p282; replace q282 := eq_true q282; have p283 : 0 ≤ (0 : Int) := (by omega); have q283 : 0 < ((rd_L6 t265 2).length : Int) := of_decide_eq_true (by first | (with_reducible assumption) | assumption); obtain ⟨ad283, e283, hx283_0⟩ := Kd.at_int (by repeat (first | (with_reducible exact HR282_0.out) | (with_reducible refine Kd.C_alloc ?_ _) | (with_reducible refine Kd.C_drewN ?_ _) | (with_reducible refine Kd.C_drew ?_) | exact HR282_0.out)) 0 p283 q283; cases e283; have qi283 : (0 < (rd_L6 t265 2).length) = True := eq_true (by omega); (try rw [show ((0 : Int)).toNat = 0 from rfl] at hx283_0); (try rw [Addr.add_zero'] at hx283_0); replace p283 := eq_true p283; replace q283 := eq_true q283; obtain ⟨Ao54, co54, eo54⟩ := Kd.R_slice HO270.out; subst eo54; obtain ⟨Ao55, co55, eo55⟩ := Kd.R_slice HO273.out; subst eo55; have p284 : 0 ≤ (0 : Int) := (by omega); have q284 : 0 < (t271.length : Int) := of_decide_eq_true (by first | (with_reducible assumption) | assumption); obtain ⟨ad284, e284, hx284_0, hx284_1⟩ := at_T38 (Kd.R_reads' HO273.out).2.2 0 p284 q284; cases e284; have qi284 : (0 < t271.length) = True := eq_true (by omega); (try rw [show ((0 : Int)).toNat = 0 from rfl] at hx284_0); (try rw [show 0 * 2 = 0 from rfl] at hx284_0); (try rw [Addr.add_zero'] at hx284_0); (try rw [show ((0 : Int)).toNat = 0 from rfl] at hx284_1); (try rw [show 0 * 2 = 0 from rfl] at hx284_1); (try rw [Addr.add_zero'] at hx284_1); replace p284 := eq_true p284; replace q284 := eq_true q284; have hcz56_0 : w52.cell? ⟨gb264, 0, none⟩ = some (.slice Ao44 t255.length co44) := (blk_cell BK264.out 0).trans rfl; have hcz56_1 : w52.cell? ⟨gb264, 1, none⟩ = some (.slice Ao46 t258.length co46) := (blk_cell BK264.out 1).trans rfl; have hcz56_2 : w52.cell? ⟨gb264, 2, none⟩ = some (.slice Ao47 t261.length co47) := (blk_cell BK264.out 2).trans rfl; have hfz56_0 := blk_frozen BK264.out 0; have hfz56_1 := blk_frozen BK264.out 1; have hfz56_2 := blk_frozen BK264.out 2) | (go_at_call 34; (with_reducible refine (scc_IsLoop.calls k _ _ t255 _ _ t258 _ _ t261 2 true _ ?side1 ?side2 ?side3 ?side4 ?side5 ?side6 A23.out).mono ?_); clear A23; (case side1 => repeat (first | exact (Kd.N_reads' HO257.out).2.2 | (with_reducible refine Kd.C_alloc ?_ _) | (with_reducible refine Kd.C_drewN ?_ _) | (with_reducible refine Kd.C_drew ?_))); (case side2 => exact (Kd.N_reads' HO257.out).2.1); (case side3 => repeat (first | exact (Kd.R_reads' HO260.out).2.2 | (with_reducible refine Kd.C_alloc ?_ _) | (with_reducible refine Kd.C_drewN ?_ _) | (with_reducible refine Kd.C_drew ?_))); (case side4 => exact (Kd.R_reads' HO260.out).2.1); (case side5 => repeat (first | exact (Kd.N_reads' HO263.out).2.2 | (with_reducible refine Kd.C_alloc ?_ _) | (with_reducible refine Kd.C_drewN ?_ _) | (with_reducible refine Kd.C_drew ?_))); (case side6 => exact (Kd.N_reads' HO263.out).2.1); rintro e w57 ⟨rfl, hb⟩; have n0_ := Aside0.mk (Kd.N_below (by (with_reducible repeat (first | apply Kd.N_alloc | apply Kd.N_drewN | apply Kd.N_drew)); exact HO254.out) hb); have n1_ := Aside0.mk (Kd.N_below (by (with_reducible repeat (first | apply Kd.N_alloc | apply Kd.N_drewN | apply Kd.N_drew)); exact HO257.out) hb); have n2_ := Aside0.mk (Kd.R_below (by (with_reducible repeat (first | apply Kd.R_alloc | apply Kd.R_drewN | apply Kd.R_drew)); exact HO260.out) hb); have n3_ := Aside0.mk (Kd.N_below (by (with_reducible repeat (first | apply Kd.N_alloc | apply Kd.N_drewN | apply Kd.N_drew)); exact HO263.out) hb); have n4_ := Aside0.mk (Kd.N_below (by (with_reducible repeat (first | apply Kd.N_alloc | apply Kd.N_drewN | apply Kd.N_drew)); exact HO267.out) hb); have n5_ := Aside0.mk (Kd.R_below (by (with_reducible repeat (first | apply Kd.R_alloc | apply Kd.R_drewN | apply Kd.R_drew)); exact HO270.out) hb); have n6_ := Aside0.mk (Kd.R_below (by (with_reducible repeat (first | apply Kd.R_alloc | apply Kd.R_drewN | apply Kd.R_drew)); exact HO273.out) hb); have n7_ := Aside0.mk (Kd.V_below (by (with_reducible repeat (first | apply Kd.V_alloc | apply Kd.V_drewN | apply Kd.V_drew)); exact HL274_0.out) hb); have n8_ := Aside0.mk (Kd.V_below (by (with_reducible repeat (first | apply Kd.V_alloc | apply Kd.V_drewN | apply Kd.V_drew)); exact HL275_0.out) hb); have n9_ := Aside0.mk (Kd.V_below (by (with_reducible repeat (first | apply Kd.V_alloc | apply Kd.V_drewN | apply Kd.V_drew)); exact HL277_0.out) hb); have n10_ := Aside0.mk (Kd.V_below (by (with_reducible repeat (first | apply Kd.V_alloc | apply Kd.V_drewN | apply Kd.V_drew)); exact HL279_0.out) hb); have n11_ := Aside0.mk (Kd.V_below (by (with_reducible repeat (first | apply Kd.V_alloc | apply Kd.V_drewN | apply Kd.V_drew)); exact HL280_0.out) hb); have n12_ := Aside0.mk (Kd.V_below (by (with_reducible repeat (first | apply Kd.V_alloc | apply Kd.V_drewN | apply Kd.V_drew)); exact HL282_0.out) hb); have n13_ := Aside0.mk (blk_below (g := gb264) (o := .cells #[.slice Ao44 t255.length co44, .slice Ao46 t258.length co46, .slice Ao47 t261.length co47] 48 (0, 0)) (by (with_reducible repeat (first | refine blk_drewN ?_ _ | refine blk_drew ?_ | refine blk_alloc ?_ _)); exact BK264.out) hb); have n14_ := Aside0.mk (Kd.C_below (by repeat (first | (with_reducible exact HR274_0.out) | (with_reducible refine Kd.C_alloc ?_ _) | (with_reducible refine Kd.C_drewN ?_ _) | (with_reducible refine Kd.C_drew ?_) | exact HR274_0.out)) hb); have n15_ := Aside0.mk (Kd.C_below (by repeat (first | (with_reducible exact HR275_0.out) | (with_reducible refine Kd.C_alloc ?_ _) | (with_reducible refine Kd.C_drewN ?_ _) | (with_reducible refine Kd.C_drew ?_) | exact HR275_0.out)) hb); have n16_ := Aside0.mk (Kd.C_below (by repeat (first | (with_reducible exact HR277_0.out) | (with_reducible refine Kd.C_alloc ?_ _) | (with_reducible refine Kd.C_drewN ?_ _) | (with_reducible refine Kd.C_drew ?_) | exact HR277_0.out)) hb); have n17_ := Aside0.mk (Kd.C_below (by repeat (first | (with_reducible exact HR279_0.out) | (with_reducible refine Kd.C_alloc ?_ _) | (with_reducible refine Kd.C_drewN ?_ _) | (with_reducible refine Kd.C_drew ?_) | exact HR279_0.out)) hb); have n18_ := Aside0.mk (Kd.C_below (by repeat (first | (with_reducible exact HR280_0.out) | (with_reducible refine Kd.C_alloc ?_ _) | (with_reducible refine Kd.C_drewN ?_ _) | (with_reducible refine Kd.C_drew ?_) | exact HR280_0.out)) hb); have n19_ := Aside0.mk (Kd.C_below (by repeat (first | (with_reducible exact HR282_0.out) | (with_reducible refine Kd.C_alloc ?_ _) | (with_reducible refine Kd.C_drewN ?_ _) | (with_reducible refine Kd.C_drew ?_) | exact HR282_0.out)) hb); have n20_ := Aside0.mk (below_step (by repeat (first | (with_reducible first | exact HB.out | apply below_alloc | apply pw_below_drewN | apply below_drew1 | refine below_set ?_ GE264.out) | exact HB.out)) hb); clear HO254; clear HO257; clear HO260; clear HO263; clear HO267; clear HO270; clear HO273; clear HL274_0; clear HL275_0; clear HL277_0; clear HL279_0; clear HL280_0; clear HL282_0; clear BK264; clear HR274_0; clear HR275_0; clear HR277_0; clear HR279_0; clear HR280_0; clear HR282_0; clear HB; have HO254 := n0_; have HO257 := n1_; have HO260 := n2_; have HO263 := n3_; have HO267 := n4_; have HO270 := n5_; have HO273 := n6_; have HL274_0 := n7_; have HL275_0 := n8_; have HL277_0 := n9_; have HL279_0 := n10_; have HL280_0 := n11_; have HL282_0 := n12_; have BK264 := n13_; have HR274_0 := n14_; have HR275_0 := n15_; have HR277_0 := n16_; have HR279_0 := n17_; have HR280_0 := n18_; have HR282_0 := n19_; have HB := n20_; clear n0_ n1_ n2_ n3_ n4_ n5_ n6_ n7_ n8_ n9_ n10_ n11_ n12_ n13_ n14_ n15_ n16_ n17_ n18_ n19_ n20_; (try clear hb); (try clear hb2); (try clear hk); (try clear hi); have hcz58_0 : w57.cell? ⟨gb264, 0, none⟩ = some (.slice Ao44 t255.length co44) := (blk_cell BK264.out 0).trans rfl; have hcz58_1 : w57.cell? ⟨gb264, 1, none⟩ = some (.slice Ao46 t258.length co46) := (blk_cell BK264.out 1).trans rfl; have hcz58_2 : w57.cell? ⟨gb264, 2, none⟩ = some (.slice Ao47 t261.length co47) := (blk_cell BK264.out 2).trans rfl; have hfz58_0 := blk_frozen BK264.out 0; have hfz58_1 := blk_frozen BK264.out 1; have hfz58_2 := blk_frozen BK264.out 2) | (go_at_call 34; (with_reducible refine (scc_IsLoop.calls k _ _ t255 _ _ t258 _ _ t261 0 false _ ?side1 ?side2 ?side3 ?side4 ?side5 ?side6 A25.out).mono ?_); clear A25; (case side1 => repeat (first | exact (Kd.N_reads' HO257.out).2.2 | (with_reducible refine Kd.C_alloc ?_ _) | (with_reducible refine Kd.C_drewN ?_ _) | (with_reducible refine Kd.C_drew ?_))); (case side2 => exact (Kd.N_reads' HO257.out).2.1); (case side3 => repeat (first | exact (Kd.R_reads' HO260.out).2.2 | (with_reducible refine Kd.C_alloc ?_ _) | (with_reducible refine Kd.C_drewN ?_ _) | (with_reducible refine Kd.C_drew ?_))); (case side4 => exact (Kd.R_reads' HO260.out).2.1); (case side5 => repeat (first | exact (Kd.N_reads' HO263.out).2.2 | (with_reducible refine Kd.C_alloc ?_ _) | (with_reducible refine Kd.C_drewN ?_ _) | (with_reducible refine Kd.C_drew ?_))); (case side6 => exact (Kd.N_reads' HO263.out).2.1); rintro e w59 ⟨rfl, hb⟩; have n0_ := Aside0.mk (Kd.N_below (by (with_reducible repeat (first | apply Kd.N_alloc | apply Kd.N_drewN | apply Kd.N_drew)); exact HO254.out) hb); have n1_ := Aside0.mk (Kd.N_below (by (with_reducible repeat (first | apply Kd.N_alloc | apply Kd.N_drewN | apply Kd.N_drew)); exact HO257.out) hb); have n2_ := Aside0.mk (Kd.R_below (by (with_reducible repeat (first | apply Kd.R_alloc | apply Kd.R_drewN | apply Kd.R_drew)); exact HO260.out) hb); have n3_ := Aside0.mk (Kd.N_below (by (with_reducible repeat (first | apply Kd.N_alloc | apply Kd.N_drewN | apply Kd.N_drew)); exact HO263.out) hb); have n4_ := Aside0.mk (Kd.N_below (by (with_reducible repeat (first | apply Kd.N_alloc | apply Kd.N_drewN | apply Kd.N_drew)); exact HO267.out) hb); have n5_ := Aside0.mk (Kd.R_below (by (with_reducible repeat (first | apply Kd.R_alloc | apply Kd.R_drewN | apply Kd.R_drew)); exact HO270.out) hb); have n6_ := Aside0.mk (Kd.R_below (by (with_reducible repeat (first | apply Kd.R_alloc | apply Kd.R_drewN | apply Kd.R_drew)); exact HO273.out) hb); have n7_ := Aside0.mk (Kd.V_below (by (with_reducible repeat (first | apply Kd.V_alloc | apply Kd.V_drewN | apply Kd.V_drew)); exact HL274_0.out) hb); have n8_ := Aside0.mk (Kd.V_below (by (with_reducible repeat (first | apply Kd.V_alloc | apply Kd.V_drewN | apply Kd.V_drew)); exact HL275_0.out) hb); have n9_ := Aside0.mk (Kd.V_below (by (with_reducible repeat (first | apply Kd.V_alloc | apply Kd.V_drewN | apply Kd.V_drew)); exact HL277_0.out) hb); have n10_ := Aside0.mk (Kd.V_below (by (with_reducible repeat (first | apply Kd.V_alloc | apply Kd.V_drewN | apply Kd.V_drew)); exact HL279_0.out) hb); have n11_ := Aside0.mk (Kd.V_below (by (with_reducible repeat (first | apply Kd.V_alloc | apply Kd.V_drewN | apply Kd.V_drew)); exact HL280_0.out) hb); have n12_ := Aside0.mk (Kd.V_below (by (with_reducible repeat (first | apply Kd.V_alloc | apply Kd.V_drewN | apply Kd.V_drew)); exact HL282_0.out) hb); have n13_ := Aside0.mk (blk_below (g := gb264) (o := .cells #[.slice Ao44 t255.length co44, .slice Ao46 t258.length co46, .slice Ao47 t261.length co47] 48 (0, 0)) (by (with_reducible repeat (first | refine blk_drewN ?_ _ | refine blk_drew ?_ | refine blk_alloc ?_ _)); exact BK264.out) hb); have n14_ := Aside0.mk (Kd.C_below (by repeat (first | (with_reducible exact HR274_0.out) | (with_reducible refine Kd.C_alloc ?_ _) | (with_reducible refine Kd.C_drewN ?_ _) | (with_reducible refine Kd.C_drew ?_) | exact HR274_0.out)) hb); have n15_ := Aside0.mk (Kd.C_below (by repeat (first | (with_reducible exact HR275_0.out) | (with_reducible refine Kd.C_alloc ?_ _) | (with_reducible refine Kd.C_drewN ?_ _) | (with_reducible refine Kd.C_drew ?_) | exact HR275_0.out)) hb); have n16_ := Aside0.mk (Kd.C_below (by repeat (first | (with_reducible exact HR277_0.out) | (with_reducible refine Kd.C_alloc ?_ _) | (with_reducible refine Kd.C_drewN ?_ _) | (with_reducible refine Kd.C_drew ?_) | exact HR277_0.out)) hb); have n17_ := Aside0.mk (Kd.C_below (by repeat (first | (with_reducible exact HR279_0.out) | (with_reducible refine Kd.C_alloc ?_ _) | (with_reducible refine Kd.C_drewN ?_ _) | (with_reducible refine Kd.C_drew ?_) | exact HR279_0.out)) hb); have n18_ := Aside0.mk (Kd.C_below (by repeat (first | (with_reducible exact HR280_0.out) | (with_reducible refine Kd.C_alloc ?_ _) | (with_reducible refine Kd.C_drewN ?_ _) | (with_reducible refine Kd.C_drew ?_) | exact HR280_0.out)) hb); have n19_ := Aside0.mk (Kd.C_below (by repeat (first | (with_reducible exact HR282_0.out) | (with_reducible refine Kd.C_alloc ?_ _) | (with_reducible refine Kd.C_drewN ?_ _) | (with_reducible refine Kd.C_drew ?_) | exact HR282_0.out)) hb); have n20_ := Aside0.mk (below_step (by repeat (first | (with_reducible first | exact HB.out | apply below_alloc | apply pw_below_drewN | apply below_drew1 | refine below_set ?_ GE264.out) | exact HB.out)) hb); clear HO254; clear HO257; clear HO260; clear HO263; clear HO267; clear HO270; clear HO273; clear HL274_0; clear HL275_0; clear HL277_0; clear HL279_0; clear HL280_0; clear HL282_0; clear BK264; clear HR274_0; clear HR275_0; clear HR277_0; clear HR279_0; clear HR280_0; clear HR282_0; clear HB; have HO254 := n0_; have HO257 := n1_; have HO260 := n2_; have HO263 := n3_; have HO267 := n4_; have HO270 := n5_; have HO273 := n6_; have HL274_0 := n7_; have HL275_0 := n8_; have HL277_0 := n9_; have HL279_0 := n10_; have HL280_0 := n11_; have HL282_0 := n12_; have BK264 := n13_; have HR274_0 := n14_; have HR275_0 := n15_; have HR277_0 := n16_; have HR279_0 := n17_; have HR280_0 := n18_; have HR282_0 := n19_; have HB := n20_; clear n0_ n1_ n2_ n3_ n4_ n5_ n6_ n7_ n8_ n9_ n10_ n11_ n12_ n13_ n14_ n15_ n16_ n17_ n18_ n19_ n20_; (try clear hb); (try clear hb2); (try clear hk); (try clear hi); have hcz60_0 : w59.cell? ⟨gb264, 0, none⟩ = some (.slice Ao44 t255.length co44) := (blk_cell BK264.out 0).trans rfl; have hcz60_1 : w59.cell? ⟨gb264, 1, none⟩ = some (.slice Ao46 t258.length co46) := (blk_cell BK264.out 1).trans rfl; have hcz60_2 : w59.cell? ⟨gb264, 2, none⟩ = some (.slice Ao47 t261.length co47) := (blk_cell BK264.out 2).trans rfl; have hfz60_0 := blk_frozen BK264.out 0; have hfz60_1 := blk_frozen BK264.out 1; have hfz60_2 := blk_frozen BK264.out 2) | (go_at_call 31; (with_reducible refine (scc_Calls.calls _ _ t255 _ _ t258 _ _ t261 1 t287 _ ?side1 ?side2 ?side3 ?side4 ?side5 ?side6 A27.out).mono ?_); clear A27; (case side1 => repeat (first | exact (Kd.N_reads' HO257.out).2.2 | (with_reducible refine Kd.C_alloc ?_ _) | (with_reducible refine Kd.C_drewN ?_ _) | (with_reducible refine Kd.C_drew ?_))); (case side2 => exact (Kd.N_reads' HO257.out).2.1); (case side3 => repeat (first | exact (Kd.R_reads' HO260.out).2.2 | (with_reducible refine Kd.C_alloc ?_ _) | (with_reducible refine Kd.C_drewN ?_ _) | (with_reducible refine Kd.C_drew ?_))); (case side4 => exact (Kd.R_reads' HO260.out).2.1); (case side5 => repeat (first | exact (Kd.N_reads' HO263.out).2.2 | (with_reducible refine Kd.C_alloc ?_ _) | (with_reducible refine Kd.C_drewN ?_ _) | (with_reducible refine Kd.C_drew ?_))); (case side6 => exact (Kd.N_reads' HO263.out).2.1); rintro e w61 ⟨v288, rfl, ho0, hb⟩; have n0_ := Aside0.mk (Kd.N_elder' (by (with_reducible repeat (first | apply Kd.N_alloc | apply Kd.N_drewN | apply Kd.N_drew)); exact HO254.out) (Kd.R_base ho0) hb); have n1_ := Aside0.mk (Kd.N_elder' (by (with_reducible repeat (first | apply Kd.N_alloc | apply Kd.N_drewN | apply Kd.N_drew)); exact HO257.out) (Kd.R_base ho0) hb); have n2_ := Aside0.mk (Kd.R_below (by (with_reducible repeat (first | apply Kd.R_alloc | apply Kd.R_drewN | apply Kd.R_drew)); exact HO260.out) hb); have n3_ := Aside0.mk (Kd.N_elder' (by (with_reducible repeat (first | apply Kd.N_alloc | apply Kd.N_drewN | apply Kd.N_drew)); exact HO263.out) (Kd.R_base ho0) hb); have n4_ := Aside0.mk (Kd.N_elder' (by (with_reducible repeat (first | apply Kd.N_alloc | apply Kd.N_drewN | apply Kd.N_drew)); exact HO267.out) (Kd.R_base ho0) hb); have n5_ := Aside0.mk (Kd.R_elder' (by (with_reducible repeat (first | apply Kd.R_alloc | apply Kd.R_drewN | apply Kd.R_drew)); exact HO270.out) (Kd.R_base ho0) hb); have n6_ := Aside0.mk (Kd.R_below (by (with_reducible repeat (first | apply Kd.R_alloc | apply Kd.R_drewN | apply Kd.R_drew)); exact HO273.out) hb); have n7_ := Aside0.mk (Kd.V_elder' (by (with_reducible repeat (first | apply Kd.V_alloc | apply Kd.V_drewN | apply Kd.V_drew)); exact HL274_0.out) (Kd.R_base ho0) hb); have n8_ := Aside0.mk (Kd.V_elder' (by (with_reducible repeat (first | apply Kd.V_alloc | apply Kd.V_drewN | apply Kd.V_drew)); exact HL275_0.out) (Kd.R_base ho0) hb); have n9_ := Aside0.mk (Kd.V_elder' (by (with_reducible repeat (first | apply Kd.V_alloc | apply Kd.V_drewN | apply Kd.V_drew)); exact HL277_0.out) (Kd.R_base ho0) hb); have n10_ := Aside0.mk (Kd.V_elder' (by (with_reducible repeat (first | apply Kd.V_alloc | apply Kd.V_drewN | apply Kd.V_drew)); exact HL279_0.out) (Kd.R_base ho0) hb); have n11_ := Aside0.mk (Kd.V_elder' (by (with_reducible repeat (first | apply Kd.V_alloc | apply Kd.V_drewN | apply Kd.V_drew)); exact HL280_0.out) (Kd.R_base ho0) hb); have n12_ := Aside0.mk (Kd.V_elder' (by (with_reducible repeat (first | apply Kd.V_alloc | apply Kd.V_drewN | apply Kd.V_drew)); exact HL282_0.out) (Kd.R_base ho0) hb); have n13_ := Aside0.mk (Kd.R_lower (Kd.R_new' ho0 (Kd.R_lt (by (with_reducible repeat (first | apply Kd.R_alloc | apply Kd.R_drewN | apply Kd.R_drew)); exact HO270.out))) (below_size (by repeat (first | (with_reducible first | exact HB.out | apply below_alloc | apply pw_below_drewN | apply below_drew1 | refine below_set ?_ GE264.out) | exact HB.out)))); have n14_ := Aside0.mk (blk_below (g := gb264) (o := .cells #[.slice Ao44 t255.length co44, .slice Ao46 t258.length co46, .slice Ao47 t261.length co47] 48 (0, 0)) (by (with_reducible repeat (first | refine blk_drewN ?_ _ | refine blk_drew ?_ | refine blk_alloc ?_ _)); exact BK264.out) hb); have n15_ := Aside0.mk (Kd.C_below (by repeat (first | (with_reducible exact HR274_0.out) | (with_reducible refine Kd.C_alloc ?_ _) | (with_reducible refine Kd.C_drewN ?_ _) | (with_reducible refine Kd.C_drew ?_) | exact HR274_0.out)) hb); have n16_ := Aside0.mk (Kd.C_below (by repeat (first | (with_reducible exact HR275_0.out) | (with_reducible refine Kd.C_alloc ?_ _) | (with_reducible refine Kd.C_drewN ?_ _) | (with_reducible refine Kd.C_drew ?_) | exact HR275_0.out)) hb); have n17_ := Aside0.mk (Kd.C_below (by repeat (first | (with_reducible exact HR277_0.out) | (with_reducible refine Kd.C_alloc ?_ _) | (with_reducible refine Kd.C_drewN ?_ _) | (with_reducible refine Kd.C_drew ?_) | exact HR277_0.out)) hb); have n18_ := Aside0.mk (Kd.C_below (by repeat (first | (with_reducible exact HR279_0.out) | (with_reducible refine Kd.C_alloc ?_ _) | (with_reducible refine Kd.C_drewN ?_ _) | (with_reducible refine Kd.C_drew ?_) | exact HR279_0.out)) hb); have n19_ := Aside0.mk (Kd.C_below (by repeat (first | (with_reducible exact HR280_0.out) | (with_reducible refine Kd.C_alloc ?_ _) | (with_reducible refine Kd.C_drewN ?_ _) | (with_reducible refine Kd.C_drew ?_) | exact HR280_0.out)) hb); have n20_ := Aside0.mk (Kd.C_below (by repeat (first | (with_reducible exact HR282_0.out) | (with_reducible refine Kd.C_alloc ?_ _) | (with_reducible refine Kd.C_drewN ?_ _) | (with_reducible refine Kd.C_drew ?_) | exact HR282_0.out)) hb); have n21_ := Aside0.mk (below_step (by repeat (first | (with_reducible first | exact HB.out | apply below_alloc | apply pw_below_drewN | apply below_drew1 | refine below_set ?_ GE264.out) | exact HB.out)) hb); clear HO254; clear HO257; clear HO260; clear HO263; clear HO267; clear HO270; clear HO273; clear HL274_0; clear HL275_0; clear HL277_0; clear HL279_0; clear HL280_0; clear HL282_0; clear BK264; clear HR274_0; clear HR275_0; clear HR277_0; clear HR279_0; clear HR280_0; clear HR282_0; clear HB; have HO254 := n0_; have HO257 := n1_; have HO260 := n2_; have HO263 := n3_; have HO267 := n4_; have HO270 := n5_; have HO273 := n6_; have HL274_0 := n7_; have HL275_0 := n8_; have HL277_0 := n9_; have HL279_0 := n10_; have HL280_0 := n11_; have HL282_0 := n12_; have HO289 := n13_; have BK264 := n14_; have HR274_0 := n15_; have HR275_0 := n16_; have HR277_0 := n17_; have HR279_0 := n18_; have HR280_0 := n19_; have HR282_0 := n20_; have HB := n21_; clear n0_ n1_ n2_ n3_ n4_ n5_ n6_ n7_ n8_ n9_ n10_ n11_ n12_ n13_ n14_ n15_ n16_ n17_ n18_ n19_ n20_ n21_; (try clear hb); (try clear hb2); (try clear hk); (try clear hi); (try clear ho0); obtain ⟨Ao62, co62, eo62⟩ := Kd.R_slice HO289.out; subst eo62; have hcz63_0 : w61.cell? ⟨gb264, 0, none⟩ = some (.slice Ao44 t255.length co44) := (blk_cell BK264.out 0).trans rfl; have hcz63_1 : w61.cell? ⟨gb264, 1, none⟩ = some (.slice Ao46 t258.length co46) := (blk_cell BK264.out 1).trans rfl; have hcz63_2 : w61.cell? ⟨gb264, 2, none⟩ = some (.slice Ao47 t261.length co47) := (blk_cell BK264.out 2).trans rfl; have hfz63_0 := blk_frozen BK264.out 0; have hfz63_1 := blk_frozen BK264.out 1; have hfz63_2 := blk_frozen BK264.out 2) | (go_at_call 31; (with_reducible refine (scc_Calls.calls _ _ t255 _ _ t258 _ _ t261 7 t290 _ ?side1 ?side2 ?side3 ?side4 ?side5 ?side6 A29.out).mono ?_); clear A29; (case side1 => repeat (first | exact (Kd.N_reads' HO257.out).2.2 | (with_reducible refine Kd.C_alloc ?_ _) | (with_reducible refine Kd.C_drewN ?_ _) | (with_reducible refine Kd.C_drew ?_))); (case side2 => exact (Kd.N_reads' HO257.out).2.1); (case side3 => repeat (first | exact (Kd.R_reads' HO260.out).2.2 | (with_reducible refine Kd.C_alloc ?_ _) | (with_reducible refine Kd.C_drewN ?_ _) | (with_reducible refine Kd.C_drew ?_))); (case side4 => exact (Kd.R_reads' HO260.out).2.1); (case side5 => repeat (first | exact (Kd.N_reads' HO263.out).2.2 | (with_reducible refine Kd.C_alloc ?_ _) | (with_reducible refine Kd.C_drewN ?_ _) | (with_reducible refine Kd.C_drew ?_))); (case side6 => exact (Kd.N_reads' HO263.out).2.1); rintro e w64 ⟨v291, rfl, ho0, hb⟩; have n0_ := Aside0.mk (Kd.N_elder' (by (with_reducible repeat (first | apply Kd.N_alloc | apply Kd.N_drewN | apply Kd.N_drew)); exact HO254.out) (Kd.R_base ho0) hb); have n1_ := Aside0.mk (Kd.N_elder' (by (with_reducible repeat (first | apply Kd.N_alloc | apply Kd.N_drewN | apply Kd.N_drew)); exact HO257.out) (Kd.R_base ho0) hb); have n2_ := Aside0.mk (Kd.R_below (by (with_reducible repeat (first | apply Kd.R_alloc | apply Kd.R_drewN | apply Kd.R_drew)); exact HO260.out) hb); have n3_ := Aside0.mk (Kd.N_elder' (by (with_reducible repeat (first | apply Kd.N_alloc | apply Kd.N_drewN | apply Kd.N_drew)); exact HO263.out) (Kd.R_base ho0) hb); have n4_ := Aside0.mk (Kd.N_elder' (by (with_reducible repeat (first | apply Kd.N_alloc | apply Kd.N_drewN | apply Kd.N_drew)); exact HO267.out) (Kd.R_base ho0) hb); have n5_ := Aside0.mk (Kd.R_elder' (by (with_reducible repeat (first | apply Kd.R_alloc | apply Kd.R_drewN | apply Kd.R_drew)); exact HO270.out) (Kd.R_base ho0) hb); have n6_ := Aside0.mk (Kd.R_below (by (with_reducible repeat (first | apply Kd.R_alloc | apply Kd.R_drewN | apply Kd.R_drew)); exact HO273.out) hb); have n7_ := Aside0.mk (Kd.V_elder' (by (with_reducible repeat (first | apply Kd.V_alloc | apply Kd.V_drewN | apply Kd.V_drew)); exact HL274_0.out) (Kd.R_base ho0) hb); have n8_ := Aside0.mk (Kd.V_elder' (by (with_reducible repeat (first | apply Kd.V_alloc | apply Kd.V_drewN | apply Kd.V_drew)); exact HL275_0.out) (Kd.R_base ho0) hb); have n9_ := Aside0.mk (Kd.V_elder' (by (with_reducible repeat (first | apply Kd.V_alloc | apply Kd.V_drewN | apply Kd.V_drew)); exact HL277_0.out) (Kd.R_base ho0) hb); have n10_ := Aside0.mk (Kd.V_elder' (by (with_reducible repeat (first | apply Kd.V_alloc | apply Kd.V_drewN | apply Kd.V_drew)); exact HL279_0.out) (Kd.R_base ho0) hb); have n11_ := Aside0.mk (Kd.V_elder' (by (with_reducible repeat (first | apply Kd.V_alloc | apply Kd.V_drewN | apply Kd.V_drew)); exact HL280_0.out) (Kd.R_base ho0) hb); have n12_ := Aside0.mk (Kd.V_elder' (by (with_reducible repeat (first | apply Kd.V_alloc | apply Kd.V_drewN | apply Kd.V_drew)); exact HL282_0.out) (Kd.R_base ho0) hb); have n13_ := Aside0.mk (Kd.R_elder' (by (with_reducible repeat (first | apply Kd.R_alloc | apply Kd.R_drewN | apply Kd.R_drew)); exact HO289.out) (Kd.R_base ho0) hb); have n14_ := Aside0.mk (Kd.R_lower (Kd.R_new' (Kd.R_new' ho0 (Kd.R_lt (by (with_reducible repeat (first | apply Kd.R_alloc | apply Kd.R_drewN | apply Kd.R_drew)); exact HO270.out))) (Kd.R_lt (by (with_reducible repeat (first | apply Kd.R_alloc | apply Kd.R_drewN | apply Kd.R_drew)); exact HO289.out))) (below_size (by repeat (first | (with_reducible first | exact HB.out | apply below_alloc | apply pw_below_drewN | apply below_drew1 | refine below_set ?_ GE264.out) | exact HB.out)))); have n15_ := Aside0.mk (blk_below (g := gb264) (o := .cells #[.slice Ao44 t255.length co44, .slice Ao46 t258.length co46, .slice Ao47 t261.length co47] 48 (0, 0)) (by (with_reducible repeat (first | refine blk_drewN ?_ _ | refine blk_drew ?_ | refine blk_alloc ?_ _)); exact BK264.out) hb); have n16_ := Aside0.mk (Kd.C_below (by repeat (first | (with_reducible exact HR274_0.out) | (with_reducible refine Kd.C_alloc ?_ _) | (with_reducible refine Kd.C_drewN ?_ _) | (with_reducible refine Kd.C_drew ?_) | exact HR274_0.out)) hb); have n17_ := Aside0.mk (Kd.C_below (by repeat (first | (with_reducible exact HR275_0.out) | (with_reducible refine Kd.C_alloc ?_ _) | (with_reducible refine Kd.C_drewN ?_ _) | (with_reducible refine Kd.C_drew ?_) | exact HR275_0.out)) hb); have n18_ := Aside0.mk (Kd.C_below (by repeat (first | (with_reducible exact HR277_0.out) | (with_reducible refine Kd.C_alloc ?_ _) | (with_reducible refine Kd.C_drewN ?_ _) | (with_reducible refine Kd.C_drew ?_) | exact HR277_0.out)) hb); have n19_ := Aside0.mk (Kd.C_below (by repeat (first | (with_reducible exact HR279_0.out) | (with_reducible refine Kd.C_alloc ?_ _) | (with_reducible refine Kd.C_drewN ?_ _) | (with_reducible refine Kd.C_drew ?_) | exact HR279_0.out)) hb); have n20_ := Aside0.mk (Kd.C_below (by repeat (first | (with_reducible exact HR280_0.out) | (with_reducible refine Kd.C_alloc ?_ _) | (with_reducible refine Kd.C_drewN ?_ _) | (with_reducible refine Kd.C_drew ?_) | exact HR280_0.out)) hb); have n21_ := Aside0.mk (Kd.C_below (by repeat (first | (with_reducible exact HR282_0.out) | (with_reducible refine Kd.C_alloc ?_ _) | (with_reducible refine Kd.C_drewN ?_ _) | (with_reducible refine Kd.C_drew ?_) | exact HR282_0.out)) hb); have n22_ := Aside0.mk (below_step (by repeat (first | (with_reducible first | exact HB.out | apply below_alloc | apply pw_below_drewN | apply below_drew1 | refine below_set ?_ GE264.out) | exact HB.out)) hb); clear HO254; clear HO257; clear HO260; clear HO263; clear HO267; clear HO270; clear HO273; clear HL274_0; clear HL275_0; clear HL277_0; clear HL279_0; clear HL280_0; clear HL282_0; clear HO289; clear BK264; clear HR274_0; clear HR275_0; clear HR277_0; clear HR279_0; clear HR280_0; clear HR282_0; clear HB; have HO254 := n0_; have HO257 := n1_; have HO260 := n2_; have HO263 := n3_; have HO267 := n4_; have HO270 := n5_; have HO273 := n6_; have HL274_0 := n7_; have HL275_0 := n8_; have HL277_0 := n9_; have HL279_0 := n10_; have HL280_0 := n11_; have HL282_0 := n12_; have HO289 := n13_; have HO292 := n14_; have BK264 := n15_; have HR274_0 := n16_; have HR275_0 := n17_; have HR277_0 := n18_; have HR279_0 := n19_; have HR280_0 := n20_; have HR282_0 := n21_; have HB := n22_; clear n0_ n1_ n2_ n3_ n4_ n5_ n6_ n7_ n8_ n9_ n10_ n11_ n12_ n13_ n14_ n15_ n16_ n17_ n18_ n19_ n20_ n21_ n22_; (try clear hb); (try clear hb2); (try clear hk); (try clear hi); (try clear ho0); obtain ⟨Ao65, co65, eo65⟩ := Kd.R_slice HO292.out; subst eo65))
                      go_ret
                      exact ⟨by first | rfl | (simp [errW_none, errW_some] <;> rfl) | (simp [*, errW_none, errW_some] <;> rfl), by repeat (first | (with_reducible first | exact HB.out | apply below_alloc | apply pw_below_drewN | apply below_drew1 | refine below_set ?_ GE264.out) | exact HB.out)⟩
                     ·rw [if_neg c28] at H
                      exact absurd H (by simp)
                   ·replace c24 := Bool.eq_false_iff.mpr c24
                    subst c24
                    have H1 : (none) = some r := by rw [if_neg (show ¬ (false = true) by decide)] at H; exact H
                    clear H
                    have H := H1
                    clear H1
                    exact absurd H (by simp)
                  ·rw [if_neg c22] at H
                   exact absurd H (by simp)
                 ·rw [if_neg c21] at H
                  exact absurd H (by simp)
                ·rw [if_neg c20] at H
                 exact absurd H (by simp)
               ·rw [if_neg c19] at H
                exact absurd H (by simp)
              ·rw [if_neg c18] at H
               exact absurd H (by simp)
             ·rw [if_neg c17] at H
              exact absurd H (by simp)
            ·rw [if_neg c16] at H
             exact absurd H (by simp)
           ·rw [if_neg c15] at H
            exact absurd H (by simp)
          ·rw [if_neg c14] at H
           exact absurd H (by simp)
         ·rw [if_neg c13] at H
          exact absurd H (by simp)
        ·rw [if_neg c12] at H
         exact absurd H (by simp)
       ·rw [if_neg c11] at H
        exact absurd H (by simp)
      ·rw [if_neg c10] at H
       exact absurd H (by simp)
     ·rw [if_neg c9] at H
      exact absurd H (by simp)
    ·rw [if_neg c8] at H
     exact absurd H (by simp)
   ·rw [if_neg c7] at H
    exact absurd H (by simp)
  ·rw [if_neg c6] at H
   exact absurd H (by simp)
 ·rw [if_neg c5] at H
  exact absurd H (by simp)
end Go.Proofs.Ytclhjalgflebfaa.Q
