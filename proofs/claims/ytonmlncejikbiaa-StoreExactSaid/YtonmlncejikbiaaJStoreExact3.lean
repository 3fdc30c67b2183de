/- What the row of StoreExact rests on, part 3: contracts of the functions that it reaches, and the plain law. -/
import Derived.Test.YtonmlncejikbiaaJStoreExact2
/- The document's store: its methods, by hand; Make's drawn region is written by wip/tool/genS.py. -/
namespace Go.Proofs.Ytonmlncejikbiaa.Q
open Go.RowKit Go.Proofs.YtonmlncejikbiaaW.PrintWords Go.Proofs.YtonmlncejikbiaaW.PrintLast Go.Proofs.YtonmlncejikbiaaW.PrintMore
set_option linter.unusedVariables false
set_option linter.unusedSimpArgs false
/-- An object as the document keeps it. -/
def mkU (F : List Bool) (x : Int × Int × List Int) : Int × Int × Bool × List Int := (x.1, x.2.1, x.2.1 != 0 && !openF F x.2.1, x.2.2)
def L4 (L : List (Int × Int × List Int)) (F : List Bool) : List (Int × Int × Bool × List Int) := L.map (mkU F)
theorem L4_len (L : List (Int × Int × List Int)) (F : List Bool) : (L4 L F).length = L.length := List.length_map _
theorem rdU_L4 {L : List (Int × Int × List Int)} {F : List Bool} {n : Nat} (hn : n < L.length) : rdU (L4 L F) (n : Int) = mkU F (rdS L (n : Int)) := by
 unfold rdU rdS L4
 rw [Int.toNat_natCast, getD_at _ _ hn, getD_at _ _ (by rw [List.length_map]; exact hn), List.getElem_map]
/-- The frames of objects are there. -/
def FB (L : List (Int × Int × List Int)) (F : List Bool) : Prop := ∀ x ∈ L, x.2.1 = 0 ∨ (1 ≤ x.2.1 ∧ x.2.1 ≤ (F.length : Int))
theorem opF_put (F : List Bool) (f : Int) (h2 : f ≤ (F.length : Int)) : openF (F ++ [true]) f = openF F f := by
 unfold openF
 by_cases h1 : 1 ≤ f
 ·rw [decide_eq_true (show 1 ≤ f ∧ f ≤ ((F ++ [true]).length : Int) from ⟨h1, by simp; omega⟩), decide_eq_true (show 1 ≤ f ∧ f ≤ (F.length : Int) from ⟨h1, h2⟩)]
  unfold rdOf
  rw [List.getD_eq_getElem?_getD, List.getElem?_append_left (by omega), ← List.getD_eq_getElem?_getD]
 ·rw [decide_eq_false (fun h => h1 h.1), decide_eq_false (fun h => h1 h.1)]
  rfl
theorem opF_range {F : List Bool} {f : Int} (h : openF F f = true) : 1 ≤ f ∧ f ≤ (F.length : Int) := by
 unfold openF at h
 rw [Bool.and_eq_true] at h
 exact of_decide_eq_true h.1
theorem opF_shut (F : List Bool) (i f : Int) (h : openF F i = true) : openF (F.set (i - 1).toNat false) f = if f = i then false else openF F f := by
 obtain ⟨h1, h2⟩ := opF_range h
 unfold openF
 rw [List.length_set]
 by_cases hr : 1 ≤ f ∧ f ≤ (F.length : Int)
 ·rw [decide_eq_true hr, Bool.true_and, Bool.true_and]
  unfold rdOf
  split
  ·rename_i e
   subst e
   rw [List.getD_eq_getElem?_getD, List.getElem?_set_self (by omega), Option.getD_some]
  ·rw [List.getD_eq_getElem?_getD, List.getElem?_set_ne (by omega), ← List.getD_eq_getElem?_getD]
 ·rw [decide_eq_false hr]
  split <;> rfl
theorem L4_enter {L : List (Int × Int × List Int)} {F : List Bool} (h : FB L F) : L4 L (F ++ [true]) = L4 L F := by
 unfold L4
 refine List.map_congr_left (fun x hx => ?_)
 unfold mkU
 rcases h x hx with h0 | ⟨h1, h2⟩
 ·rw [h0]; rfl
 ·rw [opF_put F _ h2]
theorem L4_set (L : List (Int × Int × List Int)) (F : List Bool) {n m : Nat} (z : Int) (hn : n < L.length) (e : setS L F ((n : Int) + 1) (m : Int) z = L.set n ((rdS L (n : Int)).1, (rdS L (n : Int)).2.1, (rdS L (n : Int)).2.2.set m z)) : L4 (setS L F ((n : Int) + 1) (m : Int) z) F = (L4 L F).set n ((mkU F (rdS L (n : Int))).1, (mkU F (rdS L (n : Int))).2.1, (mkU F (rdS L (n : Int))).2.2.1, (mkU F (rdS L (n : Int))).2.2.2.set m z) := by
 rw [e]
 unfold L4
 rw [List.map_set]
 rfl
/-- Objects of which the first j are told anew. -/
def mixL (L : List (Int × Int × List Int)) (F F' : List Bool) (j : Nat) : List (Int × Int × Bool × List Int) := (L.take j).map (mkU F') ++ (L.drop j).map (mkU F)
theorem mixL_len (L : List (Int × Int × List Int)) (F F' : List Bool) (j : Nat) : (mixL L F F' j).length = L.length := by
 unfold mixL
 rw [List.length_append, List.length_map, List.length_map, List.length_take, List.length_drop]; omega
theorem mixL_0 (L : List (Int × Int × List Int)) (F F' : List Bool) : mixL L F F' 0 = L4 L F := by unfold mixL L4; rw [List.take_zero, List.drop_zero]; rfl
theorem mixL_all (L : List (Int × Int × List Int)) (F F' : List Bool) : mixL L F F' L.length = L4 L F' := by unfold mixL L4; rw [List.take_length, List.drop_length, List.map_nil, List.append_nil]
theorem mixL_at {L : List (Int × Int × List Int)} (F F' : List Bool) {j : Nat} (hj : j < L.length) : rdU (mixL L F F' j) (j : Int) = mkU F (rdS L (j : Int)) := by
 unfold rdU rdS mixL
 have h1 : ((L.take j).map (mkU F')).length = j := by rw [List.length_map, List.length_take]; omega
 rw [Int.toNat_natCast, getD_at _ _ hj, List.getD_eq_getElem?_getD, List.getElem?_append_right (by omega), h1, Nat.sub_self, List.getElem?_map, List.getElem?_drop, Nat.add_zero, List.getElem?_eq_getElem hj]
 rfl
theorem mixL_next {L : List (Int × Int × List Int)} (F F' : List Bool) {j : Nat} (hj : j < L.length) : mixL L F F' (j + 1) = (mixL L F F' j).set j (mkU F' (rdS L (j : Int))) := by
 unfold mixL rdS
 have h1 : ((L.take j).map (mkU F')).length = j := by rw [List.length_map, List.length_take]; omega
 rw [Int.toNat_natCast, getD_at _ _ hj, List.take_succ_eq_append_getElem hj, List.map_append, List.append_assoc, List.set_append_right _ _ (by omega), h1, Nat.sub_self, List.drop_eq_getElem_cons hj]
 simp only [List.map_cons, List.map_nil, List.set_cons_zero, List.cons_append, List.nil_append]
theorem set_same {α : Type} (l : List α) (z : α) {j : Nat} (hj : j < l.length) : l.set j (l.getD j z) = l := by
 rw [getD_at _ _ hj]
 exact List.set_getElem_self hj
/-- The document's store, by plain objects. -/
abbrev SW (w : World) (base g : Nat) (S : List S43) (L : List (Int × Int × List Int)) (F : List Bool) (T : Nat → Prop) : Prop := SV w base g S (L4 L F) F T
theorem infoUr : (Try.prog.info? 97).map (fun i => (i.zero, i.size, i.bytes)) = some (some (.agg #[.int .i64 0, .int .i64 0, .bool false, .slice none 0 0]), kSr.sz, 48) := by kernel_rfl
section
variable {base g : Nat} {w : World} {S : List S43} {L : List (Int × Int × List Int)} {F : List Bool} {T : Nat → Prop}
theorem SW.beside {w1 : World} {U : Nat → Prop} (h : SW w base g S L F U) (hk : Kept w w1 T) (ha : ∀ k, T k → ¬ U k) : SW w1 base g S L F (fun k => U k ∧ k < w.heap.size) :=
 (h.mono (U := fun k => U k ∧ k < w.heap.size) (fun k hk hl => ⟨hk, hl⟩)).kept hk (fun k hu _ ht => ha k ht hu.1)
set_option maxRecDepth 100000 in
set_option maxHeartbeats 2000000 in
theorem ref12_open.calls (f : Int) (h : SW w base g S L F T) :
  Calls Try.prog 92 #[ptr g, .int .i64 f] w fun e w' => e = .returned (.bool (openF F f)) ∧ Below w.heap.size w w' := by
 obtain ⟨sv, lv, fv, sok, lok, fok, h, -⟩ := h
 obtain ⟨A, c, rfl, hc, hm, hC⟩ := h.frames
 obtain ⟨_, _, c2, _, _, _⟩ := bk3 h.blk
 clear h
 unfold openF
 by_cases h1 : 1 ≤ f
 ·have d1 : decide (f > 0) = true := decide_eq_true (by omega)
  by_cases h2 : f ≤ (F.length : Int)
  ·have d2 : decide (f ≤ (F.length : Int)) = true := decide_eq_true h2
   have d3 : decide (1 ≤ f ∧ f ≤ (F.length : Int)) = true := decide_eq_true ⟨h1, h2⟩
   rw [d3, Bool.true_and]
   obtain ⟨n, rfl⟩ : ∃ n : Nat, f = (n : Int) + 1 := ⟨(f - 1).toNat, by omega⟩
   have e1 : (n : Int) + 1 - 1 = n := by omega
   rw [e1]
   obtain ⟨ad, rfl, hx⟩ := Kd.at_bool hC (n : Int) (by omega) (by omega)
   simp only [Int.toNat_natCast] at hx
   generalize rdOf false F (n : Int) = b at hx ⊢
   have hw : IntKind.i64.wrap ((n : Int) + 1 - 1) = n := by rw [e1, IntKind.wrap_i64]; omega
   have hn : (n : Int) < (F.length : Int) := by omega
   clear hC d3
   go_enter Try.func92, Try.ntmps92
   go_wp2
   go_ret
   exact ⟨rfl, Below.refl _ _⟩
  ·have d2 : decide (f ≤ (F.length : Int)) = false := decide_eq_false h2
   have d3 : decide (1 ≤ f ∧ f ≤ (F.length : Int)) = false := decide_eq_false (fun h_ => h2 h_.2)
   rw [d3, Bool.false_and]
   clear hC d3
   go_enter Try.func92, Try.ntmps92
   go_wp2
   go_ret
   exact ⟨rfl, Below.refl _ _⟩
 ·have d1 : decide (f > 0) = false := decide_eq_false (by omega)
  have d3 : decide (1 ≤ f ∧ f ≤ (F.length : Int)) = false := decide_eq_false (fun h_ => h1 h_.1)
  rw [d3, Bool.false_and]
  clear hC d3
  go_enter Try.func92, Try.ntmps92
  go_wp2
  go_ret
  exact ⟨rfl, Below.refl _ _⟩
set_option maxRecDepth 100000 in
set_option maxHeartbeats 4000000 in
theorem ref12_Check.calls (o f : Int) (h : SW w base g S L F T) :
  Calls Try.prog 93 #[ptr g, .int .i64 o, .int .i64 f] w fun e w' => e = .returned (.int .i64 (chkS L F o f)) ∧ Below w.heap.size w w' := by
 obtain ⟨sv, lv, fv, sok, lok, fok, h, -⟩ := h
 obtain ⟨A, c, el, hc, hm⟩ := h.list
 rw [L4_len] at el hc hm
 obtain ⟨_, c1, _, _, _, _⟩ := bk3 h.blk
 rw [el] at c1
 by_cases h0 : o = 0
 ·subst h0
  have hr : chkS L F 0 f = 10 := if_pos rfl
  rw [hr]
  clear h
  go_enter Try.func93, Try.ntmps93
  go_wp2
  go_ret
  exact ⟨rfl, Below.refl _ _⟩
 ·have d0 : (o == 0) = false := beq_eq_false_iff_ne.mpr h0
  by_cases hlo : o < 0
  ·have hr : chkS L F o f = 13 := by unfold chkS; rw [if_neg h0, if_pos (show isSt L o = false from decide_eq_false (by omega))]
   rw [hr]
   have d1 : decide (o < 0) = true := decide_eq_true hlo
   clear h
   go_enter Try.func93, Try.ntmps93
   go_wp2
   go_ret
   exact ⟨rfl, Below.refl _ _⟩
  ·have d1 : decide (o < 0) = false := decide_eq_false hlo
   by_cases hhi : o > (L.length : Int)
   ·have hr : chkS L F o f = 13 := by unfold chkS; rw [if_neg h0, if_pos (show isSt L o = false from decide_eq_false (by omega))]
    rw [hr]
    have d2 : decide (o > (L.length : Int)) = true := decide_eq_true hhi
    clear h
    go_enter Try.func93, Try.ntmps93
    go_wp2
    go_ret
    exact ⟨rfl, Below.refl _ _⟩
   ·have d2 : decide (o > (L.length : Int)) = false := decide_eq_false hhi
    have hi : isSt L o = true := decide_eq_true (by omega)
    obtain ⟨n, rfl, hn⟩ := isSt_at hi
    have e1 : (n : Int) + 1 - 1 = n := by omega
    obtain ⟨ad, cl, A1, c1', el2, _, q0, q1, q2, q3, q4, _⟩ := h.elem (n : Int) (by omega) (by rw [L4_len]; omega)
    rw [rdU_L4 hn] at q0 q1 q2 q3 q4
    rw [L4_len, el] at el2
    cases el2
    simp only [Int.toNat_natCast] at q2 q3
    obtain ⟨x, hx⟩ : ∃ x, x = rdS L (n : Int) := ⟨_, rfl⟩
    have hfr : (mkU F (rdS L (n : Int))).2.2.1 = freedO L F ((n : Int) + 1) := by unfold mkU freedO; rw [e1]
    rw [hfr] at q2
    have q3' : w.cell? ⟨(ad.add (n * 4)).block, (ad.add (n * 4)).off + 3, none⟩ = some (.slice A1 x.2.2.length c1') := by rw [hx]; exact q3
    have hw : IntKind.i64.wrap ((n : Int) + 1 - 1) = n := by rw [e1, IntKind.wrap_i64]; omega
    have hnl : (n : Int) < (L.length : Int) := by omega
    cases hf : freedO L F ((n : Int) + 1) with
    | true =>
     rw [hf] at q2
     have hr : chkS L F ((n : Int) + 1) f = 14 := by unfold chkS; rw [if_neg h0, if_neg (by rw [hi]; decide), if_pos hf]
     rw [hr]
     clear h q0 q1 q3 q3' q4 hx hf hi hfr el
     go_enter Try.func93, Try.ntmps93
     go_wp2
     go_ret
     exact ⟨rfl, Below.refl _ _⟩
    | false =>
     rw [hf] at q2
     have hr : chkS L F ((n : Int) + 1) f = if f < 0 ∨ f ≥ (x.2.2.length : Int) then 2 else 0 := by unfold chkS; rw [if_neg h0, if_neg (by rw [hi]; decide), if_neg (by rw [hf]; decide), e1, ← hx]
     rw [hr]
     clear h q0 q1 q3 q4 hx hf hi hfr el hr
     by_cases h3 : f < 0
     ·rw [if_pos (.inl h3)]
      have d3 : decide (f < 0) = true := decide_eq_true h3
      go_enter Try.func93, Try.ntmps93
      go_wp2
      go_ret
      exact ⟨rfl, Below.refl _ _⟩
     ·have d3 : decide (f < 0) = false := decide_eq_false h3
      by_cases h4 : f ≥ (x.2.2.length : Int)
      ·rw [if_pos (.inr h4)]
       have d4 : decide (f ≥ (x.2.2.length : Int)) = true := decide_eq_true h4
       go_enter Try.func93, Try.ntmps93
       go_wp2
       go_ret
       exact ⟨rfl, Below.refl _ _⟩
      ·rw [if_neg (by omega)]
       have d4 : decide (f ≥ (x.2.2.length : Int)) = false := decide_eq_false h4
       go_enter Try.func93, Try.ntmps93
       go_wp2
       go_ret
       exact ⟨rfl, Below.refl _ _⟩
set_option maxRecDepth 100000 in
set_option maxHeartbeats 2000000 in
theorem ref12_Get.calls (o f : Int) (h : SW w base g S L F T) :
  Calls Try.prog 64 #[ptr g, .int .i64 o, .int .i64 f] w fun e w' => e = .returned (.tuple #[.int .i64 (getS L F o f), .int .i64 (chkS L F o f)]) ∧ Below w.heap.size w w' := by
 have hchk := ref12_Check.calls o f h
 obtain ⟨sv, lv, fv, sok, lok, fok, h, -⟩ := h
 unfold getS
 by_cases hz : chkS L F o f = 0
 ·rw [hz] at hchk
  rw [if_pos hz, hz]
  obtain ⟨p0, p1, _, p2, p3⟩ := chkS_zero hz
  clear hz
  obtain ⟨n, rfl⟩ : ∃ n : Nat, o = (n : Int) + 1 := ⟨(o - 1).toNat, by omega⟩
  have e1 : (n : Int) + 1 - 1 = n := by omega
  rw [e1] at p3 ⊢
  have hn : n < L.length := by omega
  obtain ⟨x, hx⟩ : ∃ x, x = rdS L (n : Int) := ⟨_, rfl⟩
  rw [← hx] at p3 ⊢
  obtain ⟨m, rfl⟩ : ∃ m : Nat, f = m := ⟨f.toNat, by omega⟩
  obtain ⟨y, hy⟩ : ∃ y, y = rd x.2.2 (m : Int) := ⟨_, rfl⟩
  rw [← hy]
  have H := Aside0.mk h; have HCH := Aside0.mk hchk; have HX := Aside0.mk hx; have HY := Aside0.mk hy; clear h hchk hx hy
  go_enter Try.func64, Try.ntmps64
  go_wp2_with fail
  refine HCH.out.mono ?_
  rintro e w1 ⟨rfl, hb⟩
  have HB := Aside0.mk hb
  have h1 := H.out.below hb
  clear hb H HCH
  obtain ⟨_, c1, _, _, _, _⟩ := bk3 h1.blk
  obtain ⟨ad, cl, A1, c1', rfl, hcl, _, _, _, q2, q3, q4⟩ := h1.elem (n : Int) (by omega) (by rw [L4_len]; omega)
  obtain ⟨_, _, _, _, hm⟩ := h1.list
  rw [L4_len] at c1 hm hcl
  rw [rdU_L4 hn] at q2 q3 q4
  simp only [Int.toNat_natCast] at q2
  have ex : (mkU F (rdS L (n : Int))).2.2.2 = x.2.2 := by rw [HX.out]; rfl
  rw [ex] at q2 q3 q4
  obtain ⟨bd, rfl, hcell⟩ := Kd.at_int q4 (m : Int) (by omega) (by omega)
  simp only [Int.toNat_natCast] at hcell
  rw [← HY.out] at hcell
  have hw : IntKind.i64.wrap ((n : Int) + 1 - 1) = n := by rw [e1, IntKind.wrap_i64]; omega
  have hxm := Kd.C_max q4
  clear h1 q4 HX HY ex
  go_wp2
  go_ret2
  exact ⟨rfl, HB.out⟩
 ·rw [if_neg hz]
  have hne : (chkS L F o f != 0) = true := by simpa using hz
  clear hz h
  generalize chkS L F o f = c at hne hchk ⊢
  have HCH := Aside0.mk hchk; clear hchk
  go_enter Try.func64, Try.ntmps64
  go_wp2_with fail
  refine HCH.out.mono ?_
  rintro e w1 ⟨rfl, hb⟩
  have HB := Aside0.mk hb; clear hb HCH
  go_wp2
  go_ret2
  exact ⟨rfl, HB.out⟩
set_option maxRecDepth 100000 in
set_option maxHeartbeats 4000000 in
theorem ref12_Set.calls (o f z : Int) (h : SW w base g S L F T) :
  Calls Try.prog 63 #[ptr g, .int .i64 o, .int .i64 f, .int .i64 z] w fun e w' => e = .returned (.int .i64 (chkS L F o f)) ∧ SW w' base g S (setS L F o f z) F (New w T) ∧ Kept w w' T ∧ Below base w w' := by
 have hbase : base ≤ w.heap.size := h.base_le
 have hchk := ref12_Check.calls o f h
 have HS := Aside0.mk h
 obtain ⟨sv, lv, fv, sok, lok, fok, h, ht⟩ := h
 have HT := Aside0.mk ht; clear ht
 by_cases hz : chkS L F o f = 0
 ·obtain ⟨p0, p1, _, p2, p3⟩ := chkS_zero hz
  have hset : setS L F o f z = L.set (o - 1).toNat ((rdS L (o - 1)).1, (rdS L (o - 1)).2.1, (rdS L (o - 1)).2.2.set f.toNat z) := if_pos hz
  rw [hz] at hchk
  rw [hz]
  clear hz
  obtain ⟨n, rfl⟩ : ∃ n : Nat, o = (n : Int) + 1 := ⟨(o - 1).toNat, by omega⟩
  have e1 : (n : Int) + 1 - 1 = n := by omega
  rw [e1] at p3 hset
  have hn : n < L.length := by omega
  obtain ⟨m, rfl⟩ : ∃ m : Nat, f = m := ⟨f.toNat, by omega⟩
  simp only [Int.toNat_natCast] at hset
  have HL4 := Aside0.mk (L4_set L F z hn hset)
  obtain ⟨x, hx⟩ : ∃ x, x = mkU F (rdS L (n : Int)) := ⟨_, rfl⟩
  have hx2 : x.2.2.2 = (rdS L (n : Int)).2.2 := by rw [hx]; rfl
  rw [← hx2] at p3
  rw [← hx] at HL4
  obtain ⟨y, hy⟩ : ∃ y, y = rd x.2.2.2 (m : Int) := ⟨_, rfl⟩
  have H := Aside0.mk h; have HCH := Aside0.mk hchk; have HX := Aside0.mk hx; have HY := Aside0.mk hy; clear h hchk hx hy hx2 hset HS
  go_enter Try.func63, Try.ntmps63
  go_wp2_with fail
  refine HCH.out.mono ?_
  rintro e w1 ⟨rfl, hb⟩
  have HK := Aside0.mk (Kept.of_below hb lok)
  have HBB := Aside0.mk (hb.mono hbase)
  have h1 := H.out.below hb
  have HSZ := Aside0.mk hb.size
  clear hb H HCH
  obtain ⟨_, c1, _, _, _, _⟩ := bk3 h1.blk
  have hxm : x.2.2.2.length ≤ 9223372036854775807 := by
   have h4 := (h1.elem (n : Int) (by omega) (by rw [L4_len]; omega))
   rw [rdU_L4 hn] at h4
   obtain ⟨_, _, _, _, _, _, _, _, _, _, _, h4⟩ := h4
   rw [HX.out]; exact Kd.C_max h4
  obtain ⟨ad, cl, b, cp, rfl, hcl, q2, q3, q4, q5, q6⟩ := h1.lend (n : Int) (m : Int) (by omega) (by rw [L4_len]; omega) p2 (by rw [rdU_L4 hn, ← HX.out]; exact p3)
  obtain ⟨_, _, _, _, hm⟩ := h1.list
  have Q6 := Aside0.mk (q6 z)
  rw [L4_len] at c1 hm hcl
  rw [rdU_L4 hn] at q2 q3 q4 Q6
  simp only [Int.toNat_natCast] at q2 q4 q5 Q6
  rw [← HX.out] at q2 q3 q4 Q6
  rw [← HY.out] at q4
  rw [← HL4.out] at Q6
  have hw : IntKind.i64.wrap ((n : Int) + 1 - 1) = n := by rw [e1, IntKind.wrap_i64]; omega
  clear h1 q6 HX HY
  go_wp2
  go_ret
  have hkk := HK.out.then_ Q6.out.2.1 (fun k hk => .inl hk)
  refine ⟨rfl, ⟨_, _, _, sok, lok, fok, Q6.out.1, fun k hk => ⟨.inl (HT.out k hk).1, Nat.lt_of_lt_of_le (HT.out k hk).2 hkk.1⟩⟩, hkk.mono (fun k h_ => (HT.out k (.inr (.inr (.inl h_)))).1), HBB.out.trans Q6.out.2.2⟩
 ·have hset : setS L F o f z = L := if_neg hz
  rw [hset]
  have hne : (chkS L F o f != 0) = true := by simpa using hz
  clear hz h hset
  generalize chkS L F o f = c at hne hchk ⊢
  have HCH := Aside0.mk hchk; clear hchk
  go_enter Try.func63, Try.ntmps63
  go_wp2_with fail
  refine HCH.out.mono ?_
  rintro e w1 ⟨rfl, hb⟩
  have HK := Aside0.mk (Kept.of_below hb T)
  have HBB := Aside0.mk (hb.mono hbase)
  have H1 := Aside0.mk (HS.out.below hb)
  clear hb HCH
  go_wp2
  go_ret
  exact ⟨rfl, H1.out.mono (fun k hk _ => .inl hk), HK.out, HBB.out⟩
set_option maxRecDepth 100000 in
set_option maxHeartbeats 4000000 in
theorem ref12_Enter.calls (h : SW w base g S L F T) (hfb : FB L F) (hF : F.length ≤ 1000000) :
  Calls Try.prog 60 #[ptr g] w fun e w' => e = .returned (.int .i64 ((F.length : Int) + 1)) ∧ SW w' base g S L (F ++ [true]) (New w T) ∧ Kept w w' T ∧ Below base w w' := by
 have hbase : base ≤ w.heap.size := h.base_le
 have he := L4_enter hfb
 have HE := Aside0.mk he; clear he
 obtain ⟨sv, lv, fv, sok, lok, fok, h, ht⟩ := h
 have HT := Aside0.mk ht; clear ht
 obtain ⟨A, c, rfl, hc, hm, hC⟩ := h.frames
 obtain ⟨_, _, c2, _, _, _⟩ := bk3 h.blk
 have H := Aside0.mk h
 clear hC h
 go_enter Try.func60, Try.ntmps60
 go_wp2_with (at_builtin; refine Kd.R_append Kd.bool (w0 := w) base rfl (.tmp 7) (.tmp 8) 39 4 (.bool false) 1 rfl Try.underlying39 infoBo rfl (by decide) (by decide) _ F true [.bool true] (fun k => (k ≠ g ∧ ¬ sok k ∧ ¬ lok k) ∧ (fok k ∨ w.heap.size ≤ k)) (fun _ => False) rfl rfl ?aP (fun _ hk => hk.elim) ?aF (Kd.R_mono H.out.frs (fun k hk => ⟨⟨(H.out.fap k hk).1, fun e => (H.out.sap k e).2.2.1 hk, fun e => (H.out.lap k e).2.1 hk⟩, .inl hk⟩)) (Below.refl _ _) hbase ?aL ?_)
 case aP => exact rfl
 case aF =>
  intro k hk
  refine ⟨⟨fun e => ?_, fun e => ?_, fun e => ?_⟩, ?_⟩
  rotate_left 3
  ·right; first | exact hk | (have := World.size_alloc w; omega)
  ·have := blk_lt H.out.blk; omega
  ·have := (H.out.sap k e).2.2.2; omega
  ·have := (H.out.lap k e).2.2.2; omega
 case aL => omega
 intro v5 w5 ho5 _ hg5 _
 obtain ⟨hb6, fok', hq, hlo, hke, hbe⟩ := H.out.entered ho5 hg5 (fun k hk => hk.1)
 obtain ⟨Fx, hFx⟩ : ∃ Fx, Fx = F ++ [true] := ⟨_, rfl⟩
 have hln : (Fx.length : Int) = (F.length : Int) + 1 := by rw [hFx]; simp
 rw [← hFx] at ho5 hq
 obtain ⟨Ax, cx, ex⟩ := Kd.R_slice ho5
 subst ex
 obtain ⟨_, _, x2, _, _, y2⟩ := bk3 hb6
 obtain ⟨_, _, z2, _, _, _⟩ := bk3 hq.blk
 have hxm := Kd.C_max (Kd.R_reads' hq.frs).2.2
 have HQ := Aside0.mk hq; have HKE := Aside0.mk hke; have HBE := Aside0.mk hbe; have HLO := Aside0.mk hlo
 have HFX := Aside0.mk hFx
 clear ho5 hg5 hq hlo hke hbe hb6 hFx c2
 go_wp2
 go_ret
 refine ⟨rfl, ?_, HKE.out.mono (fun k hk => (HT.out k (hk.elim .inl (fun h_ => .inr (.inr (.inr h_))))).1), HBE.out⟩
 refine ⟨_, _, _, sok, lok, fok', by rw [HE.out, ← HFX.out]; exact HQ.out, fun k hk => ?_⟩
 rcases hk with hk | hk | hk | hk
 ·exact ⟨.inl (HT.out k (.inl hk)).1, by rw [hk]; exact blk_lt HQ.out.blk⟩
 ·exact ⟨.inl (HT.out k (.inr (.inl hk))).1, (HQ.out.sap k hk).2.2.2⟩
 ·exact ⟨.inl (HT.out k (.inr (.inr (.inl hk)))).1, (HQ.out.lap k hk).2.2.2⟩
 ·refine ⟨?_, (HQ.out.fap k hk).2.2⟩
  rcases (HLO.out k hk).2 with h_ | h_
  ·exact .inl (HT.out k (.inr (.inr (.inr h_)))).1
  ·exact .inr h_
set_option maxRecDepth 100000 in
set_option maxHeartbeats 8000000 in
theorem ref12_Leave.calls (f : Int) (h : SW w base g S L F T) (hL : L.length ≤ 1000000) :
  Calls Try.prog 61 #[ptr g, .int .i64 f] w fun e w' => e = .returned (.int .i64 (leaveE F f)) ∧ SW w' base g S L (leaveF F f) (New w T) ∧ Kept w w' T ∧ Below base w w' := by
 have hbase : base ≤ w.heap.size := h.base_le
 have hcall := ref12_open.calls f h
 have HS := Aside0.mk h
 obtain ⟨sv, lv, fv, sok, lok, fok, h, ht⟩ := h
 have HT := Aside0.mk ht; clear ht
 cases ho : openF F f with
 | false =>
  have r1 : leaveE F f = 13 := if_neg (by rw [ho]; decide)
  have r2 : leaveF F f = F := if_neg (by rw [ho]; decide)
  rw [r1, r2]
  rw [ho] at hcall
  have HC := Aside0.mk hcall
  clear hcall h ho r1 r2
  go_enter Try.func61, Try.ntmps61
  go_wp2_with fail
  refine HC.out.mono ?_
  rintro e w1 ⟨rfl, hb⟩
  have HK := Aside0.mk (Kept.of_below hb T)
  have HBB := Aside0.mk (hb.mono hbase)
  have H1 := Aside0.mk (HS.out.below hb)
  clear hb HC
  go_wp2
  go_ret
  exact ⟨rfl, H1.out.mono (fun k hk _ => .inl hk), HK.out, HBB.out⟩
 | true =>
  have r1 : leaveE F f = 0 := if_pos ho
  have r2 : leaveF F f = F.set (f - 1).toNat false := if_pos ho
  rw [r1, r2]
  rw [ho] at hcall
  obtain ⟨o1, o2⟩ := opF_range ho
  have hsh := opF_shut F f
  obtain ⟨n, rfl⟩ : ∃ n : Nat, f = (n : Int) + 1 := ⟨(f - 1).toNat, by omega⟩
  have e1 : (n : Int) + 1 - 1 = n := by omega
  rw [e1] at hsh ⊢
  simp only [Int.toNat_natCast] at hsh ⊢
  have HSH := Aside0.mk (fun q => hsh q ho)
  have hn : n < F.length := by omega
  obtain ⟨F', hF'⟩ : ∃ F', F' = F.set n false := ⟨_, rfl⟩
  rw [← hF'] at HSH ⊢
  have HF' := Aside0.mk hF'
  have HC := Aside0.mk hcall; have H := Aside0.mk h
  clear hcall h ho HS r1 r2 hF' hsh
  go_enter Try.func61, Try.ntmps61
  go_wp2_with fail
  refine HC.out.mono ?_
  rintro e w1 ⟨rfl, hb⟩
  have HK := Aside0.mk (Kept.of_below hb fok)
  have HBB := Aside0.mk (hb.mono hbase)
  have h1 := H.out.below hb
  clear hb H HC
  obtain ⟨_, _, c2, _, _, _⟩ := bk3 h1.blk
  obtain ⟨_, _, -, _, hm, _⟩ := h1.frames
  obtain ⟨b, cp, rfl, hcp, q2, q3, q4⟩ := h1.shut (n : Int) (by omega) (by omega)
  have Q4 := Aside0.mk (q4 false)
  simp only [Int.toNat_natCast] at q2 q3 Q4
  rw [← HF'.out] at Q4
  generalize rdOf false F (n : Int) = x at q2
  have hw : IntKind.i64.wrap ((n : Int) + 1 - 1) = n := by rw [e1, IntKind.wrap_i64]; omega
  have hnl : (n : Int) < (F.length : Int) := by omega
  clear h1 q4
  go_wp2_with fail
  have HST : Aside0 (Su (w1.setCell ⟨b, n, none⟩ (.bool false)) base g sv lv (.slice (some ⟨b, 0, none⟩) F.length cp) S (mixL L F F' 0) F' sok lok fok) := ⟨by rw [mixL_0]; exact Q4.out.1⟩
  have HKP : Aside0 (Kept w (w1.setCell ⟨b, n, none⟩ (.bool false)) (fun k => lok k ∨ fok k)) := ⟨(HK.out.then_ Q4.out.2.1 (fun k hk => .inl hk)).mono (fun k hk => .inr hk)⟩
  have HBP : Aside0 (Below base w (w1.setCell ⟨b, n, none⟩ (.bool false))) := ⟨HBB.out.trans Q4.out.2.2⟩
  clear HK HBB Q4 q2 q3 c2
  generalize w1.setCell ⟨b, n, none⟩ (.bool false) = w2 at HST HKP HBP ⊢
  go_loopw [5] (fun v5 wr => ∃ j : Nat, v5 = .int .i64 j ∧ j ≤ L.length ∧ Aside0 (Su wr base g sv lv (.slice (some ⟨b, 0, none⟩) F.length cp) S (mixL L F F' j) F' sok lok fok) ∧ Aside0 (Kept w wr (fun k => lok k ∨ fok k)) ∧ Aside0 (Below base w wr)) (fun v5 _ => L.length - (intOf v5).toNat)
  case atStart => exact ⟨0, rfl, Nat.zero_le _, HST, HKP, HBP⟩
  case round =>
   clear HST HKP HBP
   obtain ⟨j, rfl, hj, HST, HKP, HBP⟩ := hrel
   obtain ⟨Al, cl, el, hcl, hlm⟩ := HST.out.list
   rw [mixL_len] at el hcl hlm
   obtain ⟨_, c1, _, _, _, _⟩ := bk3 HST.out.blk
   rw [el] at c1
   by_cases hlt : j < L.length
   ·have hltj : (j : Int) < (L.length : Int) := by omega
    obtain ⟨ad, cl2, _, _, el2, _, _, p1, _, _, _, _⟩ := HST.out.elem (j : Int) (by omega) (by rw [mixL_len]; omega)
    rw [mixL_at F F' hlt] at p1
    rw [mixL_len, el] at el2
    cases el2
    obtain ⟨ad2, cl3, el3, _, m1, m2, m3⟩ := HST.out.mark (j : Int) (by omega) (by rw [mixL_len]; omega)
    rw [mixL_len, el] at el3
    cases el3
    rw [mixL_at F F' hlt] at m1 m3
    simp only [Int.toNat_natCast] at p1 m1 m2 m3
    have hfe : (mkU F (rdS L (j : Int))).2.1 = (rdS L (j : Int)).2.1 := rfl
    rw [hfe] at p1
    have hnx := mixL_next F F' hlt
    by_cases hq : (rdS L (j : Int)).2.1 = (n : Int) + 1
    ·have d1 : ((rdS L (j : Int)).2.1 == (n : Int) + 1) = true := beq_iff_eq.mpr hq
     have M3 := Aside0.mk (m3 true)
     have hmk : mkU F' (rdS L (j : Int)) = ((mkU F (rdS L (j : Int))).1, (mkU F (rdS L (j : Int))).2.1, true, (mkU F (rdS L (j : Int))).2.2.2) := by
      unfold mkU
      rw [HSH.out, if_pos hq, show ((rdS L (j : Int)).2.1 != 0) = true from bne_iff_ne.mpr (by omega)]
      rfl
     have HNX := Aside0.mk hnx
     rw [hmk] at HNX
     rw [← HNX.out] at M3
     clear m3 hnx hmk hq hfe HNX
     generalize (mkU F (rdS L (j : Int))).2.2.1 = bb at m1
     generalize (rdS L (j : Int)).2.1 = fj at p1 d1
     go_wp2
     go_roundw
     case rel => exact ⟨j + 1, by go_num, by omega, ⟨M3.out.1⟩, ⟨HKP.out.then_ M3.out.2.1 (fun k hk => .inl (.inl hk))⟩, ⟨HBP.out.trans M3.out.2.2⟩⟩
     case measure => simp [intOf]; omega
    ·have d1 : ((rdS L (j : Int)).2.1 == (n : Int) + 1) = false := beq_eq_false_iff_ne.mpr hq
     have hmk : mkU F' (rdS L (j : Int)) = mkU F (rdS L (j : Int)) := by
      unfold mkU
      rw [HSH.out, if_neg hq]
     have hsm : mixL L F F' (j + 1) = mixL L F F' j := by
      rw [hnx, hmk, ← mixL_at F F' hlt]
      have := set_same (mixL L F F' j) (0, 0, false, []) (j := j) (by rw [mixL_len]; exact hlt)
      unfold rdU
      rw [Int.toNat_natCast]
      exact this
     have HSM := Aside0.mk hsm
     clear m1 m2 m3 hnx hmk hq hfe hsm
     generalize (rdS L (j : Int)).2.1 = fj at p1 d1
     go_wp2
     go_roundw
     case rel => exact ⟨j + 1, by go_num, by omega, ⟨by rw [HSM.out]; exact HST.out⟩, HKP, HBP⟩
     case measure => simp [intOf]; omega
   ·have hje : j = L.length := by omega
    subst hje
    go_wp2
    go_ret
    have h9 := HST.out
    rw [mixL_all] at h9
    exact ⟨rfl, ⟨_, _, _, sok, lok, fok, h9, fun k hk => ⟨.inl (HT.out k hk).1, Nat.lt_of_lt_of_le (HT.out k hk).2 HKP.out.1⟩⟩, HKP.out.mono (fun k h_ => h_.elim (fun q => (HT.out k (.inr (.inr (.inl q)))).1) (fun q => (HT.out k (.inr (.inr (.inr q)))).1)), HBP.out⟩
end
def ref12_Make.T6 : Bool × List (List Nat × List Nat) := (true, [([], []), ([], []), ([1], [1]), ([2], [2]), ([3], [3]), ([], []), ([], []), ([], []), ([7], [7]), ([8], [8]), ([9], [9]), ([], []), ([10, 11], [10, 11]), ([12], [12]), ([13], [13]), ([14], [14]), ([15, 15], [15]), ([5, 6, 16], [5, 6, 16]), ([17], [17]), ([4, 18], [4, 18]), ([0, 0, 1, 2, 3, 4, 5, 6, 7, 8, 9, 10, 11, 12, 13, 14, 15, 16, 17, 18, 19], [0]), ([20, 0, 1, 2, 3, 4, 5, 6, 7, 8, 9, 10, 11, 12, 13, 14, 15, 16, 17, 18, 19], [20]), ([21, 19, 19, 0, 1, 2, 3, 4, 5, 6, 7, 8, 9, 10, 11, 12, 13, 14, 15, 16, 17, 18, 19], [19, 21])])
def ref12_Make.B6 : List Nat := [0, 0, 2, 6, 14, 0, 0, 0, 128, 384, 896, 0, 3968, 8064, 16256, 32640, 65408, 131040, 262112, 524286, 1048575, 2097151, 4194303]
theorem ref12_Make.tab6 : rtab .any (opsOf Try.f62 6) = ref12_Make.T6 := by kernel_rfl
theorem ref12_Make.bits6 : waitsOk ref12_Make.T6.2 ref12_Make.B6 = true := by kernel_rfl
section
variable {base g : Nat} {w : World} {S : List S43} {L : List (Int × Int × List Int)} {F : List Bool} {T : Nat → Prop}
set_option maxRecDepth 100000 in
set_option maxHeartbeats 8000000 in
theorem ref12_Make.calls (name : ByteArray) (f : Int) (h : SW w base g S L F T) (hL : L.length ≤ 131072) (hF : ∀ x ∈ S, x.f1.length ≤ 1000000) :
  Calls Try.prog 62 #[ptr g, .string name, .int .i64 f] w fun e w' => e = .returned (.tuple #[.int .i64 (mkSN S L F name f), .int .i64 (mkSE S L F name f)]) ∧
   SW w' base g S (mkSL S L F name f) F (New w T) ∧ Kept w w' T ∧ Below base w w' := by
 have hbase : base ≤ w.heap.size := h.base_le
 have HS := Aside0.mk h
 obtain ⟨sv, lv, fv, sok, lok, fok, h, ht⟩ := h
 have HT := Aside0.mk ht; clear ht
 obtain ⟨Lq, hLq⟩ : ∃ Lq, Lq = L4 L F := ⟨_, rfl⟩
 have hLql : Lq.length = L.length := by rw [hLq, L4_len]
 rw [← hLq] at h
 obtain ⟨A, c, rfl, hc, hC⟩ := h.structs
 obtain ⟨Al, cl, rfl, hcl, hm⟩ := h.list
 obtain ⟨c0, c1, _, _, _, _⟩ := bk3 h.blk
 obtain ⟨kf, hkf⟩ := (rfind_ev S name (Kd.C_max hC)).rounds
 have hfind := truantref03_Find.calls kf A c S name _ w hC hc hkf
 obtain ⟨a, ha⟩ : ∃ a, a = atO S name := ⟨_, rfl⟩
 have ha' : findR (nameIs name) S = a := ha.symm
 rw [ha'] at hfind
 have H := Aside0.mk h
 by_cases hneg : a < 0
 ·have hbad : badM S F name f = true := by unfold badM; rw [← ha, decide_eq_true hneg, Bool.true_or]
  have r1 : mkSN S L F name f = 0 := if_pos (.inl hbad)
  have r2 : mkSE S L F name f = 13 := if_pos hbad
  have r3 : mkSL S L F name f = L := if_pos (.inl hbad)
  rw [r1, r2, r3]
  have hdn : decide (a < 0) = true := decide_eq_true hneg
  have HFI := Aside0.mk hfind; clear hfind h hC ha ha' hbad r1 r2 r3
  go_enter Try.func62, Try.ntmps62
  go_wp2_with fail
  refine HFI.out.mono ?_
  rintro e w1 ⟨rfl, hdb⟩
  have HB := Aside0.mk hdb.below; clear hdb c0 c1
  go_wp2
  go_ret2
  exact ⟨rfl, (HS.out.below HB.out).mono (fun k hk _ => .inl hk), Kept.of_below HB.out _, HB.out.mono hbase⟩
 ·obtain ⟨n, rfl⟩ : ∃ n : Nat, a = n := ⟨a.toNat, by omega⟩
  have hdn : decide ((n : Int) < 0) = false := decide_eq_false hneg
  have hn : n < S.length := find_lt ha'
  have HFI := Aside0.mk hfind; clear hfind
  have hlf : (rd_T43 S (n : Int)).f1.length ≤ 1000000 := hF _ (by
   unfold rd_T43
   rw [Int.toNat_natCast, getD_at _ _ hn]
   exact List.getElem_mem hn)
  have HLF := Aside0.mk hlf
  have HOP : Aside0 (∀ w1, Below w.heap.size w w1 → Calls Try.prog 92 #[ptr g, .int .i64 f] w1 fun e w' => e = .returned (.bool (openF F f)) ∧ Below w1.heap.size w1 w') := ⟨fun w1 hb => ref12_open.calls f (HS.out.below hb)⟩
  by_cases hf0 : f = 0
  ·subst hf0
   have d1 : ((0 : Int) != 0) = false := rfl
   have hbad : badM S F name 0 = false := by unfold badM; rw [← ha, decide_eq_false hneg]; rfl
   have hfz : ((0 : Int) != 0 && !openF F 0) = false := rfl
   by_cases hfull : L.length = 131072
   ·have r1 : mkSN S L F name 0 = 0 := if_pos (.inr hfull)
    have r2 : mkSE S L F name 0 = 4 := by unfold mkSE; rw [if_neg (by rw [hbad]; decide), if_pos hfull]
    have r3 : mkSL S L F name 0 = L := if_pos (.inr hfull)
    rw [r1, r2, r3]
    have heq : decide ((Lq.length : Int) ≥ 131072) = true := decide_eq_true (by omega)
    have HLQL := Aside0.mk hLql; clear h hC ha ha' hbad r1 r2 r3 hF hlf HLF hLql hLq
    go_enter Try.func62, Try.ntmps62
    go_wp2_with fail
    refine HFI.out.mono ?_
    rintro e w1 ⟨rfl, hdb⟩
    have HB := Aside0.mk hdb.below; clear hdb c0 c1
    obtain ⟨c0, c1, _, _, _, _⟩ := bk3 (H.out.below HB.out).blk
    go_wp2
    go_ret2
    exact ⟨rfl, (HS.out.below HB.out).mono (fun k hk _ => .inl hk), Kept.of_below HB.out _, HB.out.mono hbase⟩
   ·have hno : ¬ (badM S F name 0 = true ∨ L.length = 131072) := fun h_ => h_.elim (fun e => by rw [hbad] at e; cases e) hfull
    have r1 : mkSN S L F name 0 = (L.length : Int) + 1 := if_neg hno
    have r2 : mkSE S L F name 0 = 0 := by unfold mkSE; rw [if_neg (by rw [hbad]; decide), if_neg hfull]
    have r3 : mkSL S L F name 0 = L ++ [((n : Int), 0, zerosO S (n : Int))] := by rw [ha]; exact if_neg hno
    rw [r1, r2, r3]
    have hmk : L4 (L ++ [((n : Int), 0, zerosO S (n : Int))]) F = Lq ++ [((n : Int), 0, false, zerosO S (n : Int))] := by rw [hLq]; unfold L4; rw [List.map_append, List.map_singleton]; unfold mkU; show _ ++ [((n : Int), 0, ((0 : Int) != 0 && !openF F 0), zerosO S (n : Int))] = _; rw [hfz]
    have HMK := Aside0.mk hmk
    have heq : decide ((Lq.length : Int) ≥ 131072) = false := decide_eq_false (by omega)
    have HLQL := Aside0.mk hLql; clear h hC ha ha' hbad r1 r2 r3 hno hF hlf hmk hfz hLql hLq
    go_enter Try.func62, Try.ntmps62
    go_wp2_with fail
    refine HFI.out.mono ?_
    rintro e w1 ⟨rfl, hdb⟩
    have HB := Aside0.mk hdb.below; clear hdb c0 c1
    obtain ⟨c0, c1, _, _, _, _⟩ := bk3 (H.out.below HB.out).blk
    go_upto_region 6 with (fail)
    clear c0 c1
    have HK2 := Aside0.mk (below_drew1 HB.out)
    have H2 := Aside0.mk (H.out.below HK2.out)
    clear H HFI HS HOP
    obtain ⟨ad, A1, c1', e1, _, hfc, hlc, _⟩ := at_T43 (Kd.V_reads' H2.out.sts).2.2 (n : Int) (by omega) (by omega)
    subst e1
    simp only [Int.toNat_natCast] at hfc
    obtain ⟨F1, hFe⟩ : ∃ F1, F1 = (rd_T43 S (n : Int)).f1 := ⟨_, rfl⟩
    rw [← hFe] at hfc hlc
    have HFE := Aside0.mk hFe
    rw [← hFe] at HLF
    obtain ⟨Lx, hLx⟩ : ∃ Lx, Lx = Lq ++ [((n : Int), 0, false, List.replicate F1.length (0 : Int))] := ⟨_, rfl⟩
    have HLX := Aside0.mk hLx
    have hln : (Lx.length : Int) = (L.length : Int) + 1 := by rw [hLx, List.length_append, HLQL.out]; rfl
    have HLN := Aside0.mk hln
    clear hFe HB hLx hln
    refine start_ (n := 23) (S := fun w' => w'.heap[g]? = some (.cells #[.slice (some ad) S.length c, .slice Al Lq.length cl, fv] 92 (0, 0))) (ds := [22]) (tf 0 23) (by kernel_rfl) rfl rfl (H2.out.blk) (fun hHeld => ?_)
    refine with_tabW ref12_Make.tab6 ref12_Make.bits6 (fun HT_ HW_ => ?_)
    generalize w1.drew = w2 at H2 HK2 hfc hHeld ⊢
    refine pure_ (i := 0) (N := some 33) (v := ?_) (a' := ?_) (tf 1 22) rfl rfl (any_of HT_.out (by kernel_rfl)) (fun _ _ _ h => h) (Or.inl ⟨by rfl, ?_⟩) ?_ ?_
    rotate_left
    ·intro w'
     go_simp
     with_reducible rfl
    rotate_left
    ·simp only [Act.put, List.setIfInBounds_toArray, List.set_cons_zero, List.set_cons_succ, i64_w, i32_w]
     rfl
    refine pure_ (i := 1) (N := some 34) (v := ?_) (a' := ?_) (tf 2 21) rfl rfl (any_of HT_.out (by kernel_rfl)) (fun _ _ _ h => h) (Or.inl ⟨by rfl, ?_⟩) ?_ ?_
    rotate_left
    ·intro w'
     go_simp
     with_reducible rfl
    rotate_left
    ·simp only [Act.put, List.setIfInBounds_toArray, List.set_cons_zero, List.set_cons_succ, i64_w, i32_w]
     rfl
    refine pure_ (i := 2) (N := some 35) (v := ?_) (a' := ?_) (tf 3 20) rfl rfl (any_of HT_.out (by kernel_rfl)) (fun _ _ _ h => h) (Or.inl ⟨by rfl, ?_⟩) ?_ ?_
    rotate_left
    ·intro w'
     go_simp
     with_reducible rfl
    rotate_left
    ·simp only [Act.put, List.setIfInBounds_toArray, List.set_cons_zero, List.set_cons_succ, i64_w, i32_w]
     rfl
    refine pure_ (i := 3) (N := some 36) (v := ?_) (a' := ?_) (tf 4 19) rfl rfl (any_of HT_.out (by kernel_rfl)) (fun _ _ _ h => h) (Or.inl ⟨by rfl, ?_⟩) ?_ ?_
    rotate_left
    ·intro w'
     go_simp
     with_reducible rfl
    rotate_left
    ·simp only [Act.put, List.setIfInBounds_toArray, List.set_cons_zero, List.set_cons_succ, i64_w, i32_w]
     rfl
    refine pure_ (i := 5) (N := some 38) (v := ?_) (a' := ?_) #[true, true, true, true, false, true, false, false, false, false, false, false, false, false, false, false, false, false, false, false, false, false, false] rfl rfl (any_of HT_.out (by kernel_rfl)) (fun _ _ _ h => h) (Or.inl ⟨by rfl, ?_⟩) ?_ ?_
    rotate_left
    ·intro w'
     go_simp
     with_reducible rfl
    rotate_left
    ·simp only [Act.put, List.setIfInBounds_toArray, List.set_cons_zero, List.set_cons_succ, i64_w, i32_w]
     rfl
    refine pure_ (i := 6) (N := some 39) (v := ?_) (a' := ?_) #[true, true, true, true, false, true, true, false, false, false, false, false, false, false, false, false, false, false, false, false, false, false, false] rfl rfl (any_of HT_.out (by kernel_rfl)) (fun _ _ _ h => h) (Or.inl ⟨by rfl, ?_⟩) ?_ ?_
    rotate_left
    ·intro w'
     go_simp
     with_reducible rfl
    rotate_left
    ·simp only [Act.put, List.setIfInBounds_toArray, List.set_cons_zero, List.set_cons_succ, i64_w, i32_w]
     rfl
    refine pure_ (i := 7) (N := some 40) (v := ?_) (a' := ?_) #[true, true, true, true, false, true, true, true, false, false, false, false, false, false, false, false, false, false, false, false, false, false, false] rfl rfl (any_of HT_.out (by kernel_rfl)) (fun _ _ _ h => h) (Or.inl ⟨by rfl, ?_⟩) ?_ ?_
    rotate_left
    ·intro w'
     go_simp
     with_reducible rfl
    rotate_left
    ·simp only [Act.put, List.setIfInBounds_toArray, List.set_cons_zero, List.set_cons_succ, i64_w, i32_w]
     rfl
    refine pure_ (i := 8) (N := some 41) (v := ?_) (a' := ?_) #[true, true, true, true, false, true, true, true, true, false, false, false, false, false, false, false, false, false, false, false, false, false, false] rfl rfl (any_of HT_.out (by kernel_rfl)) (fun _ _ _ h => h) (Or.inl ⟨by rfl, ?_⟩) ?_ ?_
    rotate_left
    ·intro w'
     go_simp
     with_reducible rfl
    rotate_left
    ·simp only [Act.put, List.setIfInBounds_toArray, List.set_cons_zero, List.set_cons_succ, i64_w, i32_w]
     rfl
    refine pure_ (i := 9) (N := some 42) (v := ?_) (a' := ?_) #[true, true, true, true, false, true, true, true, true, true, false, false, false, false, false, false, false, false, false, false, false, false, false] rfl rfl (any_of HT_.out (by kernel_rfl)) (fun _ _ _ h => h) (Or.inl ⟨by rfl, ?_⟩) ?_ ?_
    rotate_left
    ·intro w'
     go_simp
     with_reducible rfl
    rotate_left
    ·simp only [Act.put, List.setIfInBounds_toArray, List.set_cons_zero, List.set_cons_succ, i64_w, i32_w]
     rfl
    refine pure_ (i := 11) (N := some 44) (v := ?_) (a' := ?_) #[true, true, true, true, false, true, true, true, true, true, false, true, false, false, false, false, false, false, false, false, false, false, false] rfl rfl (any_of HT_.out (by kernel_rfl)) (fun _ _ _ h => h) (Or.inl ⟨by rfl, ?_⟩) ?_ ?_
    rotate_left
    ·intro w'
     go_simp
     with_reducible rfl
    rotate_left
    ·simp only [Act.put, List.setIfInBounds_toArray, List.set_cons_zero, List.set_cons_succ, i64_w, i32_w]
     rfl
    refine take_ (i := 4) (N := some 37) (v := ?_) (a' := ?_) #[true, true, true, true, true, true, true, true, true, true, false, true, false, false, false, false, false, false, false, false, false, false, false] rfl rfl (take_ofW HT_.out HW_.out (by kernel_rfl)) (fun _ _ _ h => h) (Or.inl ⟨by rfl, ?_⟩) hHeld ?_ ?_
    rotate_left
    ·intro w' s0
     obtain ⟨c0, c1, _, _, _, _⟩ := bk3 s0
     go_simp
     with_reducible rfl
    rotate_left
    ·simp only [Act.put, List.setIfInBounds_toArray, List.set_cons_zero, List.set_cons_succ, i64_w, i32_w]
     rfl
    refine take_ (i := 10) (N := some 43) (v := ?_) (a' := ?_) (tf 12 11) rfl rfl (take_ofW HT_.out HW_.out (by kernel_rfl)) (fun _ _ _ h => h) (Or.inl ⟨by rfl, ?_⟩) hHeld ?_ ?_
    rotate_left
    ·intro w' s0
     obtain ⟨c0, c1, _, _, _, _⟩ := bk3 s0
     go_simp
     with_reducible rfl
    rotate_left
    ·simp only [Act.put, List.setIfInBounds_toArray, List.set_cons_zero, List.set_cons_succ, i64_w, i32_w]
     rfl
    refine pure_ (i := 12) (N := some 45) (v := ?_) (a' := ?_) (tf 13 10) rfl rfl (any_of HT_.out (by kernel_rfl)) (fun _ _ _ h => h) (Or.inl ⟨by rfl, ?_⟩) ?_ ?_
    rotate_left
    ·intro w'
     go_simp
     with_reducible rfl
    rotate_left
    ·simp only [Act.put, List.setIfInBounds_toArray, List.set_cons_zero, List.set_cons_succ, i64_w, i32_w]
     rfl
    refine pure_ (i := 13) (N := some 46) (v := ?_) (a' := ?_) (tf 14 9) rfl rfl (any_of HT_.out (by kernel_rfl)) (fun _ _ _ h => h) (Or.inl ⟨by rfl, ?_⟩) ?_ ?_
    rotate_left
    ·intro w'
     go_simp
     with_reducible rfl
    rotate_left
    ·simp only [Act.put, List.setIfInBounds_toArray, List.set_cons_zero, List.set_cons_succ, i64_w, i32_w]
     rfl
    refine one_ (i := 14) (N := some 47) (tf 15 8) rfl rfl (one_of HT_.out (by kernel_rfl)) (by decide) (fun K hK => ?_)
    refine value_ (w1 := ?_) (v := ?_) (by rfl) rfl ?_ ?_
    rotate_left 2
    ·go_simp
     constructor
     ·rfl
     ·rfl
    refine hK.out _ _ (hHeld) (fun hHeld => ?_)
    clear hK K
    refine norm_ (a' := ?_) ?_ ?_
    rotate_left
    ·show Act.put _ (some 47) _ = _
     simp only [Act.put, List.setIfInBounds_toArray, List.set_cons_zero, List.set_cons_succ, i64_w, i32_w]
     rfl
    refine pure_ (i := 15) (N := some 48) (v := ?_) (a' := ?_) (tf 16 7) rfl rfl (any_of HT_.out (by kernel_rfl)) (fun _ _ _ h => h) (Or.inl ⟨by rfl, ?_⟩) ?_ ?_
    rotate_left
    ·intro w'
     go_simp
     with_reducible rfl
    rotate_left
    ·simp only [Act.put, List.setIfInBounds_toArray, List.set_cons_zero, List.set_cons_succ, i64_w, i32_w]
     rfl
    refine one_ (i := 16) (N := some 49) (tf 17 6) rfl rfl (one_of HT_.out (by kernel_rfl)) (by decide) (fun K hK => ?_)
    refine Kd.R_make_step (Kd.int .i64) (w0 := w2) w2.heap.size 3 (by rfl) (N := 49) rfl 45 _ _ rfl (F1.length : Int) rfl rfl Try.underlying45 (.int .i64 0) 8 infoInt rfl (by decide) (by decide) (0 : Int) (ok := fun _ => True) (okp := fun _ => True) rfl (fun _ h_ => h_) trivial (by omega) (by have := HLF.out; omega) (Below.refl _ _) (Nat.le_refl _) ?_
    intro v3 w3 hr3 hb3 hg3 hn3
    rw [Int.toNat_natCast] at hr3
    obtain ⟨A3, c3, e3⟩ := Kd.R_slice hr3
    rw [List.length_replicate] at e3
    subst e3
    have HR3 := Aside0.mk hr3
    have H3 := Aside0.mk (H2.out.below hb3)
    have HB3 := Aside0.mk hb3
    clear hg3 hn3 hr3
    refine hK.out _ _ ((blkB hHeld hb3)) (fun hHeld => ?_)
    clear hK K
    refine norm_ (a' := ?_) ?_ ?_
    rotate_left
    ·show Act.put _ (some 49) _ = _
     simp only [Act.put, List.setIfInBounds_toArray, List.set_cons_zero, List.set_cons_succ, i64_w, i32_w]
     rfl
    refine pure_ (i := 17) (N := some 50) (v := ?_) (a' := ?_) (tf 18 5) rfl rfl (any_of HT_.out (by kernel_rfl)) (fun _ _ _ h => h) (Or.inl ⟨by rfl, ?_⟩) ?_ ?_
    rotate_left
    ·intro w'
     go_simp
     with_reducible rfl
    rotate_left
    ·simp only [Act.put, List.setIfInBounds_toArray, List.set_cons_zero, List.set_cons_succ, i64_w, i32_w]
     rfl
    refine one_ (i := 18) (N := some 51) (tf 19 4) rfl rfl (one_of HT_.out (by kernel_rfl)) (by decide) (fun K hK => ?_)
    refine value_ (w1 := ?_) (v := ?_) (by rfl) rfl ?_ ?_
    rotate_left 2
    ·go_simp
     constructor
     ·rfl
     ·rfl
    refine hK.out _ _ ((blk_alloc hHeld _)) (fun hHeld => ?_)
    clear hK K
    refine norm_ (a' := ?_) ?_ ?_
    rotate_left
    ·show Act.put _ (some 51) _ = _
     simp only [Act.put, List.setIfInBounds_toArray, List.set_cons_zero, List.set_cons_succ, i64_w, i32_w]
     rfl
    refine one_ (i := 19) (N := some 52) (tf 20 3) rfl rfl (one_of HT_.out (by kernel_rfl)) (by decide) (fun K hK => ?_)
    refine Kd.S_append_step kSr (w0 := w3) base (by rfl) (.tmp 37) (.tmp 51) 90 97 (.agg #[.int .i64 0, .int .i64 0, .bool false, .slice none 0 0]) 48 rfl Try.underlying90 infoUr rfl (by decide) (by decide) (.slice Al Lq.length cl) Lq ((n : Int), 0, false, List.replicate F1.length (0 : Int)) [.int .i64 n, .int .i64 0, .bool false, .slice A3 F1.length c3] (fun k => (k ≠ g ∧ ¬ sok k ∧ ¬ fok k) ∧ (lok k ∨ w2.heap.size ≤ k)) (fun k => some k = (Value.slice A3 F1.length c3).ownBlock) rfl rfl ?aP ?aK ?aF ?aO (Below.refl _ _) ?aS ?aL ?_
    case aP => exact kSr_mkM _ _ _ ((n : Int), 0, false, List.replicate F1.length (0 : Int)) (Kd.R_tight rfl (Kd.R_lower HR3.out (Nat.le_trans H2.out.low (Nat.le_of_lt (blk_lt H2.out.blk)))))
    case aK =>
     exact fun k hk => by
      have hge := Kd.R_base HR3.out k hk.symm
      refine ⟨⟨⟨fun e => ?_, fun e => ?_, fun e => ?_⟩, .inr hge⟩, fun e => ?_⟩
      ·have := blk_lt H2.out.blk; omega
      ·have := (H2.out.sap k e).2.2.2; omega
      ·have := (H2.out.fap k e).2.2; omega
      ·have := (H2.out.lap k ((Kd.S_R H2.out.lst).1 k e.symm)).2.2.2; omega
    case aF =>
     exact fun k hk => by
      have hge := Nat.le_trans HB3.out.size hk
      refine ⟨⟨fun e => ?_, fun e => ?_, fun e => ?_⟩, .inr hge⟩
      ·have := blk_lt H2.out.blk; omega
      ·have := (H2.out.sap k e).2.2.2; omega
      ·have := (H2.out.fap k e).2.2; omega
    case aO => exact Kd.S_mono H3.out.lst (fun k hk => ⟨⟨⟨(H2.out.lap k hk).1, fun e => (H2.out.sap k e).2.1 hk, (H2.out.lap k hk).2.1⟩, .inl hk⟩, fun e => by have := Kd.R_base HR3.out k e.symm; have := (H2.out.lap k hk).2.2.2; omega⟩)
    case aS => exact Nat.le_trans H3.out.low (Nat.le_of_lt (blk_lt H3.out.blk))
    case aL => have := HLQL.out; omega
    intro v5 w5 ho5 _ hg5 _
    obtain ⟨hb6, lok', hq, hlo, hke, hbe⟩ := H3.out.appended ho5 hg5 (fun k hk => hk.1)
    rw [← HLX.out] at ho5 hq
    obtain ⟨Ax, cx, ex⟩ := Kd.S_slice ho5
    subst ex
    have HQ := Aside0.mk hq
    have HLO0 := Aside0.mk hlo
    have HKE0 := Aside0.mk hke
    have HBE0 := Aside0.mk hbe
    clear ho5 hg5 hq hlo hke hbe
    refine hK.out _ _ (hb6) (fun hHeld => ?_)
    clear hK K
    refine norm_ (a' := ?_) ?_ ?_
    rotate_left
    ·show Act.put _ (some 52) _ = _
     simp only [Act.put, List.setIfInBounds_toArray, List.set_cons_zero, List.set_cons_succ, i64_w, i32_w]
     rfl
    refine pure_ (i := 20) (N := some 53) (v := ?_) (a' := ?_) (tf 21 2) rfl rfl (any_of HT_.out (by kernel_rfl)) (fun _ _ _ h => h) (Or.inl ⟨by rfl, ?_⟩) ?_ ?_
    rotate_left
    ·intro w'
     go_simp
     with_reducible rfl
    rotate_left
    ·simp only [Act.put, List.setIfInBounds_toArray, List.set_cons_zero, List.set_cons_succ, i64_w, i32_w]
     rfl
    refine pure_ (i := 21) (N := some 54) (v := ?_) (a' := ?_) (tf 22 1) rfl rfl (any_of HT_.out (by kernel_rfl)) (fun _ _ _ h => h) (Or.inl ⟨by rfl, ?_⟩) ?_ ?_
    rotate_left
    ·intro w'
     go_simp
     with_reducible rfl
    rotate_left
    ·simp only [Act.put, List.setIfInBounds_toArray, List.set_cons_zero, List.set_cons_succ, i64_w, i32_w]
     rfl
    refine last_ (i := 22) (N := none) (tf 23 0) rfl rfl (one_of HT_.out (by kernel_rfl)) (by decide) (fun K hK => ?_)
    obtain ⟨y0, y1, y2, z0, z1, z2⟩ := bk3 hHeld
    refine skip_ (w1 := ?_) (by rfl) rfl ?_ ?_
    rotate_left
    ·go_simp
     rfl
    refine hK.out _ _ ?_
    clear hK K
    refine done_ (done_of HT_.out (by kernel_rfl)) ?_
    have HLO : Aside0 (∀ k, lok' k → lok k ∨ w.heap.size ≤ k) := ⟨fun k hk => (HLO0.out k hk).2.imp_right (fun h_ => Nat.le_trans HK2.out.size h_)⟩
    have HKE : Aside0 (Kept w (w5.setCell ⟨g, 1, none⟩ (.slice Ax Lx.length cx)) (fun k => k = g ∨ lok k)) := ⟨((Kept.of_below HK2.out _).below HB3.out).then_ HKE0.out (fun k hk => .inl hk)⟩
    have HBE : Aside0 (Below base w (w5.setCell ⟨g, 1, none⟩ (.slice Ax Lx.length cx))) := ⟨((HK2.out.mono hbase).trans (HB3.out.mono (Nat.le_trans H2.out.low (Nat.le_of_lt (blk_lt H2.out.blk))))).trans HBE0.out⟩
    clear HLO0 HKE0 HBE0
    generalize w5.setCell ⟨g, 1, none⟩ (.slice Ax Lx.length cx) = w6 at HQ HKE HBE ⊢
    obtain ⟨x0, x1, _, _, _, _⟩ := bk3 HQ.out.blk
    go_wp2
    go_ret2
    have hz : zerosO S (n : Int) = List.replicate F1.length 0 := by unfold zerosO; rw [← HFE.out]
    refine ⟨by rw [HLN.out]; rfl, ⟨_, _, _, sok, lok', fok, by rw [HMK.out, hz, ← HLX.out]; exact HQ.out, fun k hk => ?_⟩, HKE.out.mono (fun k hk => (HT.out k (hk.elim .inl (fun h_ => .inr (.inr (.inl h_))))).1), HBE.out⟩
    rcases hk with hk | hk | hk | hk
    ·exact ⟨.inl (HT.out k (.inl hk)).1, by rw [hk]; exact blk_lt HQ.out.blk⟩
    ·exact ⟨.inl (HT.out k (.inr (.inl hk))).1, (HQ.out.sap k hk).2.2.2⟩
    ·exact ⟨(HLO.out k hk).imp_left (fun h_ => (HT.out k (.inr (.inr (.inl h_)))).1), (HQ.out.lap k hk).2.2.2⟩
    ·exact ⟨.inl (HT.out k (.inr (.inr (.inr hk)))).1, (HQ.out.fap k hk).2.2⟩
  ·have d1 : (f != 0) = true := bne_iff_ne.mpr hf0
   cases ho : openF F f with
   | false =>
    have hbad : badM S F name f = true := by unfold badM; rw [d1, ho]; simp
    have r1 : mkSN S L F name f = 0 := if_pos (.inl hbad)
    have r2 : mkSE S L F name f = 13 := if_pos hbad
    have r3 : mkSL S L F name f = L := if_pos (.inl hbad)
    rw [r1, r2, r3]
    rw [ho] at HOP
    clear h hC ha ha' hbad r1 r2 r3 hF hlf HLF
    go_enter Try.func62, Try.ntmps62
    go_wp2_with fail
    refine HFI.out.mono ?_
    rintro e w0a ⟨rfl, hdb⟩
    have HBa := Aside0.mk hdb.below; clear hdb c0 c1
    go_wp2_with fail
    refine (HOP.out w0a HBa.out).mono ?_
    rintro e w1 ⟨rfl, hb⟩
    have HB := Aside0.mk (below_step HBa.out hb); clear hb
    go_wp2
    go_ret2
    exact ⟨rfl, (HS.out.below HB.out).mono (fun k hk _ => .inl hk), Kept.of_below HB.out _, HB.out.mono hbase⟩
   | true =>
    rw [ho] at HOP
    have hbad : badM S F name f = false := by unfold badM; rw [← ha, decide_eq_false hneg, ho]; simp
    have hfz : (f != 0 && !openF F f) = false := by rw [ho]; simp
    by_cases hfull : L.length = 131072
    ·have r1 : mkSN S L F name f = 0 := if_pos (.inr hfull)
     have r2 : mkSE S L F name f = 4 := by unfold mkSE; rw [if_neg (by rw [hbad]; decide), if_pos hfull]
     have r3 : mkSL S L F name f = L := if_pos (.inr hfull)
     rw [r1, r2, r3]
     have heq : decide ((Lq.length : Int) ≥ 131072) = true := decide_eq_true (by omega)
     have HLQL := Aside0.mk hLql; clear h hC ha ha' hbad r1 r2 r3 hF hlf HLF hLql hLq
     go_enter Try.func62, Try.ntmps62
     go_wp2_with fail
     refine HFI.out.mono ?_
     rintro e w0a ⟨rfl, hdb⟩
     have HBa := Aside0.mk hdb.below; clear hdb c0 c1
     go_wp2_with fail
     refine (HOP.out w0a HBa.out).mono ?_
     rintro e w1 ⟨rfl, hb⟩
     have HB := Aside0.mk (below_step HBa.out hb); clear hb HBa
     obtain ⟨c0, c1, _, _, _, _⟩ := bk3 (H.out.below HB.out).blk
     go_wp2
     go_ret2
     exact ⟨rfl, (HS.out.below HB.out).mono (fun k hk _ => .inl hk), Kept.of_below HB.out _, HB.out.mono hbase⟩
    ·have hno : ¬ (badM S F name f = true ∨ L.length = 131072) := fun h_ => h_.elim (fun e => by rw [hbad] at e; cases e) hfull
     have r1 : mkSN S L F name f = (L.length : Int) + 1 := if_neg hno
     have r2 : mkSE S L F name f = 0 := by unfold mkSE; rw [if_neg (by rw [hbad]; decide), if_neg hfull]
     have r3 : mkSL S L F name f = L ++ [((n : Int), f, zerosO S (n : Int))] := by rw [ha]; exact if_neg hno
     rw [r1, r2, r3]
     have hmk : L4 (L ++ [((n : Int), f, zerosO S (n : Int))]) F = Lq ++ [((n : Int), f, false, zerosO S (n : Int))] := by rw [hLq]; unfold L4; rw [List.map_append, List.map_singleton]; unfold mkU; show _ ++ [((n : Int), f, ((f : Int) != 0 && !openF F f), zerosO S (n : Int))] = _; rw [hfz]
     have HMK := Aside0.mk hmk
     have heq : decide ((Lq.length : Int) ≥ 131072) = false := decide_eq_false (by omega)
     have HLQL := Aside0.mk hLql; clear h hC ha ha' hbad r1 r2 r3 hno hF hlf hmk hfz hLql hLq
     go_enter Try.func62, Try.ntmps62
     go_wp2_with fail
     refine HFI.out.mono ?_
     rintro e w0a ⟨rfl, hdb⟩
     have HBa := Aside0.mk hdb.below; clear hdb c0 c1
     go_wp2_with fail
     refine (HOP.out w0a HBa.out).mono ?_
     rintro e w1 ⟨rfl, hb⟩
     have HB := Aside0.mk (below_step HBa.out hb); clear hb HBa
     obtain ⟨c0, c1, _, _, _, _⟩ := bk3 (H.out.below HB.out).blk
     go_upto_region 6 with (fail)
     clear c0 c1
     have HK2 := Aside0.mk (below_drew1 HB.out)
     have H2 := Aside0.mk (H.out.below HK2.out)
     clear H HFI HS HOP
     obtain ⟨ad, A1, c1', e1, _, hfc, hlc, _⟩ := at_T43 (Kd.V_reads' H2.out.sts).2.2 (n : Int) (by omega) (by omega)
     subst e1
     simp only [Int.toNat_natCast] at hfc
     obtain ⟨F1, hFe⟩ : ∃ F1, F1 = (rd_T43 S (n : Int)).f1 := ⟨_, rfl⟩
     rw [← hFe] at hfc hlc
     have HFE := Aside0.mk hFe
     rw [← hFe] at HLF
     obtain ⟨Lx, hLx⟩ : ∃ Lx, Lx = Lq ++ [((n : Int), f, false, List.replicate F1.length (0 : Int))] := ⟨_, rfl⟩
     have HLX := Aside0.mk hLx
     have hln : (Lx.length : Int) = (L.length : Int) + 1 := by rw [hLx, List.length_append, HLQL.out]; rfl
     have HLN := Aside0.mk hln
     clear hFe HB hLx hln
     refine start_ (n := 23) (S := fun w' => w'.heap[g]? = some (.cells #[.slice (some ad) S.length c, .slice Al Lq.length cl, fv] 92 (0, 0))) (ds := [22]) (tf 0 23) (by kernel_rfl) rfl rfl (H2.out.blk) (fun hHeld => ?_)
     refine with_tabW ref12_Make.tab6 ref12_Make.bits6 (fun HT_ HW_ => ?_)
     generalize w1.drew = w2 at H2 HK2 hfc hHeld ⊢
     refine pure_ (i := 0) (N := some 33) (v := ?_) (a' := ?_) (tf 1 22) rfl rfl (any_of HT_.out (by kernel_rfl)) (fun _ _ _ h => h) (Or.inl ⟨by rfl, ?_⟩) ?_ ?_
     rotate_left
     ·intro w'
      go_simp
      with_reducible rfl
     rotate_left
     ·simp only [Act.put, List.setIfInBounds_toArray, List.set_cons_zero, List.set_cons_succ, i64_w, i32_w]
      rfl
     refine pure_ (i := 1) (N := some 34) (v := ?_) (a' := ?_) (tf 2 21) rfl rfl (any_of HT_.out (by kernel_rfl)) (fun _ _ _ h => h) (Or.inl ⟨by rfl, ?_⟩) ?_ ?_
     rotate_left
     ·intro w'
      go_simp
      with_reducible rfl
     rotate_left
     ·simp only [Act.put, List.setIfInBounds_toArray, List.set_cons_zero, List.set_cons_succ, i64_w, i32_w]
      rfl
     refine pure_ (i := 2) (N := some 35) (v := ?_) (a' := ?_) (tf 3 20) rfl rfl (any_of HT_.out (by kernel_rfl)) (fun _ _ _ h => h) (Or.inl ⟨by rfl, ?_⟩) ?_ ?_
     rotate_left
     ·intro w'
      go_simp
      with_reducible rfl
     rotate_left
     ·simp only [Act.put, List.setIfInBounds_toArray, List.set_cons_zero, List.set_cons_succ, i64_w, i32_w]
      rfl
     refine pure_ (i := 3) (N := some 36) (v := ?_) (a' := ?_) (tf 4 19) rfl rfl (any_of HT_.out (by kernel_rfl)) (fun _ _ _ h => h) (Or.inl ⟨by rfl, ?_⟩) ?_ ?_
     rotate_left
     ·intro w'
      go_simp
      with_reducible rfl
     rotate_left
     ·simp only [Act.put, List.setIfInBounds_toArray, List.set_cons_zero, List.set_cons_succ, i64_w, i32_w]
      rfl
     refine pure_ (i := 5) (N := some 38) (v := ?_) (a' := ?_) #[true, true, true, true, false, true, false, false, false, false, false, false, false, false, false, false, false, false, false, false, false, false, false] rfl rfl (any_of HT_.out (by kernel_rfl)) (fun _ _ _ h => h) (Or.inl ⟨by rfl, ?_⟩) ?_ ?_
     rotate_left
     ·intro w'
      go_simp
      with_reducible rfl
     rotate_left
     ·simp only [Act.put, List.setIfInBounds_toArray, List.set_cons_zero, List.set_cons_succ, i64_w, i32_w]
      rfl
     refine pure_ (i := 6) (N := some 39) (v := ?_) (a' := ?_) #[true, true, true, true, false, true, true, false, false, false, false, false, false, false, false, false, false, false, false, false, false, false, false] rfl rfl (any_of HT_.out (by kernel_rfl)) (fun _ _ _ h => h) (Or.inl ⟨by rfl, ?_⟩) ?_ ?_
     rotate_left
     ·intro w'
      go_simp
      with_reducible rfl
     rotate_left
     ·simp only [Act.put, List.setIfInBounds_toArray, List.set_cons_zero, List.set_cons_succ, i64_w, i32_w]
      rfl
     refine pure_ (i := 7) (N := some 40) (v := ?_) (a' := ?_) #[true, true, true, true, false, true, true, true, false, false, false, false, false, false, false, false, false, false, false, false, false, false, false] rfl rfl (any_of HT_.out (by kernel_rfl)) (fun _ _ _ h => h) (Or.inl ⟨by rfl, ?_⟩) ?_ ?_
     rotate_left
     ·intro w'
      go_simp
      with_reducible rfl
     rotate_left
     ·simp only [Act.put, List.setIfInBounds_toArray, List.set_cons_zero, List.set_cons_succ, i64_w, i32_w]
      rfl
     refine pure_ (i := 8) (N := some 41) (v := ?_) (a' := ?_) #[true, true, true, true, false, true, true, true, true, false, false, false, false, false, false, false, false, false, false, false, false, false, false] rfl rfl (any_of HT_.out (by kernel_rfl)) (fun _ _ _ h => h) (Or.inl ⟨by rfl, ?_⟩) ?_ ?_
     rotate_left
     ·intro w'
      go_simp
      with_reducible rfl
     rotate_left
     ·simp only [Act.put, List.setIfInBounds_toArray, List.set_cons_zero, List.set_cons_succ, i64_w, i32_w]
      rfl
     refine pure_ (i := 9) (N := some 42) (v := ?_) (a' := ?_) #[true, true, true, true, false, true, true, true, true, true, false, false, false, false, false, false, false, false, false, false, false, false, false] rfl rfl (any_of HT_.out (by kernel_rfl)) (fun _ _ _ h => h) (Or.inl ⟨by rfl, ?_⟩) ?_ ?_
     rotate_left
     ·intro w'
      go_simp
      with_reducible rfl
     rotate_left
     ·simp only [Act.put, List.setIfInBounds_toArray, List.set_cons_zero, List.set_cons_succ, i64_w, i32_w]
      rfl
     refine pure_ (i := 11) (N := some 44) (v := ?_) (a' := ?_) #[true, true, true, true, false, true, true, true, true, true, false, true, false, false, false, false, false, false, false, false, false, false, false] rfl rfl (any_of HT_.out (by kernel_rfl)) (fun _ _ _ h => h) (Or.inl ⟨by rfl, ?_⟩) ?_ ?_
     rotate_left
     ·intro w'
      go_simp
      with_reducible rfl
     rotate_left
     ·simp only [Act.put, List.setIfInBounds_toArray, List.set_cons_zero, List.set_cons_succ, i64_w, i32_w]
      rfl
     refine take_ (i := 4) (N := some 37) (v := ?_) (a' := ?_) #[true, true, true, true, true, true, true, true, true, true, false, true, false, false, false, false, false, false, false, false, false, false, false] rfl rfl (take_ofW HT_.out HW_.out (by kernel_rfl)) (fun _ _ _ h => h) (Or.inl ⟨by rfl, ?_⟩) hHeld ?_ ?_
     rotate_left
     ·intro w' s0
      obtain ⟨c0, c1, _, _, _, _⟩ := bk3 s0
      go_simp
      with_reducible rfl
     rotate_left
     ·simp only [Act.put, List.setIfInBounds_toArray, List.set_cons_zero, List.set_cons_succ, i64_w, i32_w]
      rfl
     refine take_ (i := 10) (N := some 43) (v := ?_) (a' := ?_) (tf 12 11) rfl rfl (take_ofW HT_.out HW_.out (by kernel_rfl)) (fun _ _ _ h => h) (Or.inl ⟨by rfl, ?_⟩) hHeld ?_ ?_
     rotate_left
     ·intro w' s0
      obtain ⟨c0, c1, _, _, _, _⟩ := bk3 s0
      go_simp
      with_reducible rfl
     rotate_left
     ·simp only [Act.put, List.setIfInBounds_toArray, List.set_cons_zero, List.set_cons_succ, i64_w, i32_w]
      rfl
     refine pure_ (i := 12) (N := some 45) (v := ?_) (a' := ?_) (tf 13 10) rfl rfl (any_of HT_.out (by kernel_rfl)) (fun _ _ _ h => h) (Or.inl ⟨by rfl, ?_⟩) ?_ ?_
     rotate_left
     ·intro w'
      go_simp
      with_reducible rfl
     rotate_left
     ·simp only [Act.put, List.setIfInBounds_toArray, List.set_cons_zero, List.set_cons_succ, i64_w, i32_w]
      rfl
     refine pure_ (i := 13) (N := some 46) (v := ?_) (a' := ?_) (tf 14 9) rfl rfl (any_of HT_.out (by kernel_rfl)) (fun _ _ _ h => h) (Or.inl ⟨by rfl, ?_⟩) ?_ ?_
     rotate_left
     ·intro w'
      go_simp
      with_reducible rfl
     rotate_left
     ·simp only [Act.put, List.setIfInBounds_toArray, List.set_cons_zero, List.set_cons_succ, i64_w, i32_w]
      rfl
     refine one_ (i := 14) (N := some 47) (tf 15 8) rfl rfl (one_of HT_.out (by kernel_rfl)) (by decide) (fun K hK => ?_)
     refine value_ (w1 := ?_) (v := ?_) (by rfl) rfl ?_ ?_
     rotate_left 2
     ·go_simp
      constructor
      ·rfl
      ·rfl
     refine hK.out _ _ (hHeld) (fun hHeld => ?_)
     clear hK K
     refine norm_ (a' := ?_) ?_ ?_
     rotate_left
     ·show Act.put _ (some 47) _ = _
      simp only [Act.put, List.setIfInBounds_toArray, List.set_cons_zero, List.set_cons_succ, i64_w, i32_w]
      rfl
     refine pure_ (i := 15) (N := some 48) (v := ?_) (a' := ?_) (tf 16 7) rfl rfl (any_of HT_.out (by kernel_rfl)) (fun _ _ _ h => h) (Or.inl ⟨by rfl, ?_⟩) ?_ ?_
     rotate_left
     ·intro w'
      go_simp
      with_reducible rfl
     rotate_left
     ·simp only [Act.put, List.setIfInBounds_toArray, List.set_cons_zero, List.set_cons_succ, i64_w, i32_w]
      rfl
     refine one_ (i := 16) (N := some 49) (tf 17 6) rfl rfl (one_of HT_.out (by kernel_rfl)) (by decide) (fun K hK => ?_)
     refine Kd.R_make_step (Kd.int .i64) (w0 := w2) w2.heap.size 3 (by rfl) (N := 49) rfl 45 _ _ rfl (F1.length : Int) rfl rfl Try.underlying45 (.int .i64 0) 8 infoInt rfl (by decide) (by decide) (0 : Int) (ok := fun _ => True) (okp := fun _ => True) rfl (fun _ h_ => h_) trivial (by omega) (by have := HLF.out; omega) (Below.refl _ _) (Nat.le_refl _) ?_
     intro v3 w3 hr3 hb3 hg3 hn3
     rw [Int.toNat_natCast] at hr3
     obtain ⟨A3, c3, e3⟩ := Kd.R_slice hr3
     rw [List.length_replicate] at e3
     subst e3
     have HR3 := Aside0.mk hr3
     have H3 := Aside0.mk (H2.out.below hb3)
     have HB3 := Aside0.mk hb3
     clear hg3 hn3 hr3
     refine hK.out _ _ ((blkB hHeld hb3)) (fun hHeld => ?_)
     clear hK K
     refine norm_ (a' := ?_) ?_ ?_
     rotate_left
     ·show Act.put _ (some 49) _ = _
      simp only [Act.put, List.setIfInBounds_toArray, List.set_cons_zero, List.set_cons_succ, i64_w, i32_w]
      rfl
     refine pure_ (i := 17) (N := some 50) (v := ?_) (a' := ?_) (tf 18 5) rfl rfl (any_of HT_.out (by kernel_rfl)) (fun _ _ _ h => h) (Or.inl ⟨by rfl, ?_⟩) ?_ ?_
     rotate_left
     ·intro w'
      go_simp
      with_reducible rfl
     rotate_left
     ·simp only [Act.put, List.setIfInBounds_toArray, List.set_cons_zero, List.set_cons_succ, i64_w, i32_w]
      rfl
     refine one_ (i := 18) (N := some 51) (tf 19 4) rfl rfl (one_of HT_.out (by kernel_rfl)) (by decide) (fun K hK => ?_)
     refine value_ (w1 := ?_) (v := ?_) (by rfl) rfl ?_ ?_
     rotate_left 2
     ·go_simp
      constructor
      ·rfl
      ·rfl
     refine hK.out _ _ ((blk_alloc hHeld _)) (fun hHeld => ?_)
     clear hK K
     refine norm_ (a' := ?_) ?_ ?_
     rotate_left
     ·show Act.put _ (some 51) _ = _
      simp only [Act.put, List.setIfInBounds_toArray, List.set_cons_zero, List.set_cons_succ, i64_w, i32_w]
      rfl
     refine one_ (i := 19) (N := some 52) (tf 20 3) rfl rfl (one_of HT_.out (by kernel_rfl)) (by decide) (fun K hK => ?_)
     refine Kd.S_append_step kSr (w0 := w3) base (by rfl) (.tmp 37) (.tmp 51) 90 97 (.agg #[.int .i64 0, .int .i64 0, .bool false, .slice none 0 0]) 48 rfl Try.underlying90 infoUr rfl (by decide) (by decide) (.slice Al Lq.length cl) Lq ((n : Int), f, false, List.replicate F1.length (0 : Int)) [.int .i64 n, .int .i64 f, .bool false, .slice A3 F1.length c3] (fun k => (k ≠ g ∧ ¬ sok k ∧ ¬ fok k) ∧ (lok k ∨ w2.heap.size ≤ k)) (fun k => some k = (Value.slice A3 F1.length c3).ownBlock) rfl rfl ?aP ?aK ?aF ?aO (Below.refl _ _) ?aS ?aL ?_
     case aP => exact kSr_mkM _ _ _ ((n : Int), f, false, List.replicate F1.length (0 : Int)) (Kd.R_tight rfl (Kd.R_lower HR3.out (Nat.le_trans H2.out.low (Nat.le_of_lt (blk_lt H2.out.blk)))))
     case aK =>
      exact fun k hk => by
       have hge := Kd.R_base HR3.out k hk.symm
       refine ⟨⟨⟨fun e => ?_, fun e => ?_, fun e => ?_⟩, .inr hge⟩, fun e => ?_⟩
       ·have := blk_lt H2.out.blk; omega
       ·have := (H2.out.sap k e).2.2.2; omega
       ·have := (H2.out.fap k e).2.2; omega
       ·have := (H2.out.lap k ((Kd.S_R H2.out.lst).1 k e.symm)).2.2.2; omega
     case aF =>
      exact fun k hk => by
       have hge := Nat.le_trans HB3.out.size hk
       refine ⟨⟨fun e => ?_, fun e => ?_, fun e => ?_⟩, .inr hge⟩
       ·have := blk_lt H2.out.blk; omega
       ·have := (H2.out.sap k e).2.2.2; omega
       ·have := (H2.out.fap k e).2.2; omega
     case aO => exact Kd.S_mono H3.out.lst (fun k hk => ⟨⟨⟨(H2.out.lap k hk).1, fun e => (H2.out.sap k e).2.1 hk, (H2.out.lap k hk).2.1⟩, .inl hk⟩, fun e => by have := Kd.R_base HR3.out k e.symm; have := (H2.out.lap k hk).2.2.2; omega⟩)
     case aS => exact Nat.le_trans H3.out.low (Nat.le_of_lt (blk_lt H3.out.blk))
     case aL => have := HLQL.out; omega
     intro v5 w5 ho5 _ hg5 _
     obtain ⟨hb6, lok', hq, hlo, hke, hbe⟩ := H3.out.appended ho5 hg5 (fun k hk => hk.1)
     rw [← HLX.out] at ho5 hq
     obtain ⟨Ax, cx, ex⟩ := Kd.S_slice ho5
     subst ex
     have HQ := Aside0.mk hq
     have HLO0 := Aside0.mk hlo
     have HKE0 := Aside0.mk hke
     have HBE0 := Aside0.mk hbe
     clear ho5 hg5 hq hlo hke hbe
     refine hK.out _ _ (hb6) (fun hHeld => ?_)
     clear hK K
     refine norm_ (a' := ?_) ?_ ?_
     rotate_left
     ·show Act.put _ (some 52) _ = _
      simp only [Act.put, List.setIfInBounds_toArray, List.set_cons_zero, List.set_cons_succ, i64_w, i32_w]
      rfl
     refine pure_ (i := 20) (N := some 53) (v := ?_) (a' := ?_) (tf 21 2) rfl rfl (any_of HT_.out (by kernel_rfl)) (fun _ _ _ h => h) (Or.inl ⟨by rfl, ?_⟩) ?_ ?_
     rotate_left
     ·intro w'
      go_simp
      with_reducible rfl
     rotate_left
     ·simp only [Act.put, List.setIfInBounds_toArray, List.set_cons_zero, List.set_cons_succ, i64_w, i32_w]
      rfl
     refine pure_ (i := 21) (N := some 54) (v := ?_) (a' := ?_) (tf 22 1) rfl rfl (any_of HT_.out (by kernel_rfl)) (fun _ _ _ h => h) (Or.inl ⟨by rfl, ?_⟩) ?_ ?_
     rotate_left
     ·intro w'
      go_simp
      with_reducible rfl
     rotate_left
     ·simp only [Act.put, List.setIfInBounds_toArray, List.set_cons_zero, List.set_cons_succ, i64_w, i32_w]
      rfl
     refine last_ (i := 22) (N := none) (tf 23 0) rfl rfl (one_of HT_.out (by kernel_rfl)) (by decide) (fun K hK => ?_)
     obtain ⟨y0, y1, y2, z0, z1, z2⟩ := bk3 hHeld
     refine skip_ (w1 := ?_) (by rfl) rfl ?_ ?_
     rotate_left
     ·go_simp
      rfl
     refine hK.out _ _ ?_
     clear hK K
     refine done_ (done_of HT_.out (by kernel_rfl)) ?_
     have HLO : Aside0 (∀ k, lok' k → lok k ∨ w.heap.size ≤ k) := ⟨fun k hk => (HLO0.out k hk).2.imp_right (fun h_ => Nat.le_trans HK2.out.size h_)⟩
     have HKE : Aside0 (Kept w (w5.setCell ⟨g, 1, none⟩ (.slice Ax Lx.length cx)) (fun k => k = g ∨ lok k)) := ⟨((Kept.of_below HK2.out _).below HB3.out).then_ HKE0.out (fun k hk => .inl hk)⟩
     have HBE : Aside0 (Below base w (w5.setCell ⟨g, 1, none⟩ (.slice Ax Lx.length cx))) := ⟨((HK2.out.mono hbase).trans (HB3.out.mono (Nat.le_trans H2.out.low (Nat.le_of_lt (blk_lt H2.out.blk))))).trans HBE0.out⟩
     clear HLO0 HKE0 HBE0
     generalize w5.setCell ⟨g, 1, none⟩ (.slice Ax Lx.length cx) = w6 at HQ HKE HBE ⊢
     obtain ⟨x0, x1, _, _, _, _⟩ := bk3 HQ.out.blk
     go_wp2
     go_ret2
     have hz : zerosO S (n : Int) = List.replicate F1.length 0 := by unfold zerosO; rw [← HFE.out]
     refine ⟨by rw [HLN.out]; rfl, ⟨_, _, _, sok, lok', fok, by rw [HMK.out, hz, ← HLX.out]; exact HQ.out, fun k hk => ?_⟩, HKE.out.mono (fun k hk => (HT.out k (hk.elim .inl (fun h_ => .inr (.inr (.inl h_))))).1), HBE.out⟩
     rcases hk with hk | hk | hk | hk
     ·exact ⟨.inl (HT.out k (.inl hk)).1, by rw [hk]; exact blk_lt HQ.out.blk⟩
     ·exact ⟨.inl (HT.out k (.inr (.inl hk))).1, (HQ.out.sap k hk).2.2.2⟩
     ·exact ⟨(HLO.out k hk).imp_left (fun h_ => (HT.out k (.inr (.inr (.inl h_)))).1), (HQ.out.lap k hk).2.2.2⟩
     ·exact ⟨.inl (HT.out k (.inr (.inr (.inr hk)))).1, (HQ.out.fap k hk).2.2⟩
end
/-- What the stack comes to. -/
structure CameS (isF : Int → Bool) (near : Int → List Int) (todo out r : List Int) : Prop where
 had : ∀ x ∈ out, x ∈ r
 root : ∀ x ∈ todo, isF x = true → x ∈ r
 shut : (∀ x ∈ out, ∀ y ∈ near x, isF y = true → y ∈ out ∨ y ∈ todo) → ∀ x ∈ r, ∀ y ∈ near x, isF y = true → y ∈ r
 is : ∀ x ∈ r, isF x = true
 nodup : r.Nodup
 least : ∀ T : Int → Prop, (∀ x ∈ out, T x) → (∀ x ∈ todo, isF x = true → T x) → (∀ x, T x → isF x = true → ∀ y ∈ near x, isF y = true → T y) → ∀ x ∈ r, T x
 len : r.length ≤ 1000000000
theorem reach_runS {isF : Int → Bool} {near : Int → List Int} {U : List Int} {B : Nat} (hU : ∀ x, isF x = true → x ∈ U) (hB : ∀ x, isF x = true → (near x).length ≤ B) : ∀ (m : Nat) (todo out : List Int), unseen U out * (B + 1) + todo.length ≤ m → m + B ≤ 1000000000 → out.length + unseen U out ≤ 1000000000 → (∀ x ∈ out, isF x = true) → out.Nodup →
  ∃ r, (∀ k, m < k → reachQ isF (fun x => some (near x)) k todo out = some r) ∧ CameS isF near todo out r := by
 intro m
 induction m with
 | zero =>
  intro todo out hm _ hl hi hn
  have h0 : todo = [] := List.eq_nil_of_length_eq_zero (by omega)
  subst h0
  refine ⟨out, fun k hk => ?_, ⟨fun x hx => hx, fun x hx => absurd hx (by simp), fun hs x hx y hy hF => (hs x hx y hy hF).resolve_right (by simp), hi, hn, fun T h1 _ _ x hx => h1 x hx, by omega⟩⟩
  obtain ⟨k, rfl⟩ : ∃ q, k = q + 1 := ⟨k - 1, by omega⟩
  unfold reachQ
  rw [if_neg (by simp)]
 | succ m ih =>
  intro todo out hm hM hl hi hn
  by_cases hp : 0 < todo.length
  ·obtain ⟨t, ht⟩ : ∃ t, todo.length = t + 1 := ⟨todo.length - 1, by omega⟩
   have hsp := todo_split todo t ht
   obtain ⟨x, hx⟩ : ∃ x, x = rd todo (t : Int) := ⟨_, rfl⟩
   obtain ⟨tk, htk⟩ : ∃ tk, tk = todo.take t := ⟨_, rfl⟩
   have htl : tk.length = t := by rw [htk, List.length_take]; omega
   rw [← hx, ← htk] at hsp
   have et : todo.length - 1 = t := by omega
   have hmem : ∀ y, y ∈ todo ↔ y ∈ tk ∨ y = x := fun y => by rw [hsp, List.mem_append, List.mem_singleton]
   by_cases hc : isF x = true ∧ out.contains x = false
   ·have hns := hB x hc.1
    have hxo : x ∉ out := by
     intro q
     have := hc.2
     rw [← Bool.not_eq_true, List.contains_iff_mem] at this
     exact this q
    have hu := unseen_lt x out hc.2 U (hU x hc.1)
    have hmul : unseen U (out ++ [x]) * (B + 1) + (B + 1) ≤ unseen U out * (B + 1) := by
     have := Nat.mul_le_mul_right (B + 1) hu
     rw [Nat.add_mul, Nat.one_mul] at this
     exact this
    obtain ⟨r, hr, cr⟩ := ih (tk ++ near x) (out ++ [x]) (by rw [List.length_append]; omega) (by omega) (by rw [List.length_append, List.length_singleton]; omega) (fun y hy => by
     rcases List.mem_append.mp hy with hy | hy
     ·exact hi y hy
     ·rw [List.mem_singleton.mp hy]; exact hc.1) (List.nodup_append.mpr ⟨hn, by simp, fun a ha b hb e => hxo (by rw [List.mem_singleton] at hb; rw [← hb, ← e]; exact ha)⟩)
    refine ⟨r, fun k hk => ?_, ⟨fun y hy => cr.had y (List.mem_append_left _ hy), fun y hy hF => ?_, fun hs => ?_, cr.is, cr.nodup, fun T h1 h2 h3 => ?_, cr.len⟩⟩
    ·obtain ⟨k, rfl⟩ : ∃ q, k = q + 1 := ⟨k - 1, by omega⟩
     unfold reachQ
     rw [if_pos hp, et, ← hx, ← htk, if_pos hc, Option.bind_some, if_pos ⟨by unfold LIMR; omega, by unfold LIMR; omega⟩]
     exact hr k (by omega)
    ·rcases (hmem y).mp hy with hy | hy
     ·exact cr.root y (List.mem_append_left _ hy) hF
     ·rw [hy]; exact cr.had x (by simp)
    ·refine cr.shut (fun y hy z hz hzF => ?_)
     rcases List.mem_append.mp hy with hy | hy
     ·rcases hs y hy z hz hzF with q | q
      ·exact .inl (List.mem_append_left _ q)
      ·rcases (hmem z).mp q with q | q
       ·exact .inr (List.mem_append_left _ q)
       ·rw [q]; exact .inl (by simp)
     ·rw [List.mem_singleton.mp hy] at hz
      exact .inr (List.mem_append_right _ hz)
    ·have hTx : T x := h2 x ((hmem x).mpr (.inr rfl)) hc.1
     refine cr.least T (fun y hy => ?_) (fun y hy hF => ?_) h3
     ·rcases List.mem_append.mp hy with hy | hy
      ·exact h1 y hy
      ·rw [List.mem_singleton.mp hy]; exact hTx
     ·rcases List.mem_append.mp hy with hy | hy
      ·exact h2 y ((hmem y).mpr (.inl hy)) hF
      ·exact h3 x hTx hc.1 y hy hF
   ·obtain ⟨r, hr, cr⟩ := ih tk out (by omega) (by omega) hl hi hn
    have hxr : isF x = true → x ∈ out := fun hF => by
     have h1 : out.contains x ≠ false := fun q => hc ⟨hF, q⟩
     exact List.contains_iff_mem.mp (by simpa using h1)
    refine ⟨r, fun k hk => ?_, ⟨cr.had, fun y hy hF => ?_, fun hs => ?_, cr.is, cr.nodup, fun T h1 h2 h3 => ?_, cr.len⟩⟩
    ·obtain ⟨k, rfl⟩ : ∃ q, k = q + 1 := ⟨k - 1, by omega⟩
     unfold reachQ
     rw [if_pos hp, et, ← hx, ← htk, if_neg hc]
     exact hr k (by omega)
    ·rcases (hmem y).mp hy with hy | hy
     ·exact cr.root y hy hF
     ·rw [hy] at hF ⊢; exact cr.had x (hxr hF)
    ·refine cr.shut (fun y hy z hz hzF => ?_)
     rcases hs y hy z hz hzF with q | q
     ·exact .inl q
     ·rcases (hmem z).mp q with q | q
      ·exact .inr q
      ·rw [q]; exact .inl (hxr (by rw [← q]; exact hzF))
    ·exact cr.least T h1 (fun y hy hF => h2 y ((hmem y).mpr (.inl hy)) hF) h3
  ·have h0 : todo = [] := List.eq_nil_of_length_eq_zero (by omega)
   subst h0
   refine ⟨out, fun k hk => ?_, ⟨fun x hx => hx, fun x hx => absurd hx (by simp), fun hs x hx y hy hF => (hs x hx y hy hF).resolve_right (by simp), hi, hn, fun T h1 _ _ x hx => h1 x hx, by omega⟩⟩
   obtain ⟨k, rfl⟩ : ∃ q, k = q + 1 := ⟨k - 1, by omega⟩
   unfold reachQ
   rw [if_neg (by simp)]
def bfsG (isF : Int → Bool) (nn : Int → List Int) : Nat → List Int → List Bool → Option (List Bool)
 | 0, _, _ => none
 | _ + 1, [], W => some W
 | k + 1, x :: t, W => if isF x = true ∧ rdOf false W x = false then (if t.length + (nn x).length < LIMR then bfsG isF nn k (t ++ nn x) (W.set x.toNat true) else none) else bfsG isF nn k t W
/-- What the queue comes to. -/
structure Bg (isF : Int → Bool) (nn : Int → List Int) (todo : List Int) (W0 W : List Bool) : Prop where
 len : W.length = W0.length
 had : ∀ x, rdOf false W0 x = true → rdOf false W x = true
 root : ∀ x ∈ todo, isF x = true → rdOf false W x = true
 shut : (∀ x, isF x = true → rdOf false W0 x = true → ∀ y ∈ nn x, isF y = true → rdOf false W0 y = true ∨ y ∈ todo) → ∀ x, isF x = true → rdOf false W x = true → ∀ y ∈ nn x, isF y = true → rdOf false W y = true
 least : ∀ T : Int → Prop, (∀ x, isF x = true → rdOf false W0 x = true → T x) → (∀ x ∈ todo, isF x = true → T x) → (∀ x, T x → isF x = true → ∀ y ∈ nn x, isF y = true → T y) → ∀ x, isF x = true → rdOf false W x = true → T x
theorem bg_nil (isF : Int → Bool) (nn : Int → List Int) (W : List Bool) : Bg isF nn [] W W :=
 ⟨rfl, fun _ h => h, fun x hx => absurd hx (by simp), fun hs x h1 h2 y hy h3 => (hs x h1 h2 y hy h3).resolve_right (by simp), fun T h1 _ _ x hx hb => h1 x hx hb⟩
theorem bit_setG {W : List Bool} {x y : Int} (hx : x.toNat < W.length) : rdOf false (W.set x.toNat true) y = if y.toNat = x.toNat then true else rdOf false W y := by
 unfold rdOf
 by_cases e : y.toNat = x.toNat
 ·rw [if_pos e, e, List.getD_eq_getElem?_getD, List.getElem?_set_self hx, Option.getD_some]
 ·rw [if_neg e, List.getD_eq_getElem?_getD, List.getElem?_set_ne (by omega), ← List.getD_eq_getElem?_getD]
theorem bfs_runG {isF : Int → Bool} {N : Nat} {nn : Int → List Int} {B : Nat} (hI : ∀ x, isF x = true → 1 ≤ x ∧ x ≤ (N : Int)) (hB : ∀ x, isF x = true → (nn x).length ≤ B) : ∀ (m : Nat) (todo : List Int) (W0 : List Bool), W0.count false * (B + 1) + todo.length ≤ m → m + B < LIMR → W0.length = N + 1 →
  ∃ W, (∀ k, m < k → bfsG isF nn k todo W0 = some W) ∧ Bg isF nn todo W0 W := by
 intro m
 induction m with
 | zero =>
  intro todo W0 hm _ _
  have h0 : todo = [] := List.eq_nil_of_length_eq_zero (by omega)
  subst h0
  refine ⟨W0, fun k hk => ?_, bg_nil isF nn W0⟩
  obtain ⟨k, rfl⟩ : ∃ q, k = q + 1 := ⟨k - 1, by omega⟩
  rfl
 | succ m ih =>
  intro todo W0 hm hM hl
  cases todo with
  | nil =>
   refine ⟨W0, fun k hk => ?_, bg_nil isF nn W0⟩
   obtain ⟨k, rfl⟩ : ∃ q, k = q + 1 := ⟨k - 1, by omega⟩
   rfl
  | cons x t =>
   rw [List.length_cons] at hm
   by_cases hc : isF x = true ∧ rdOf false W0 x = false
   ·have hn := hB x hc.1
    obtain ⟨i1, i2⟩ := hI _ hc.1
    have hx : x.toNat < W0.length := by omega
    have hat : W0[x.toNat] = false := by
     have := hc.2
     unfold rdOf at this
     rwa [getD_at _ _ hx] at this
    have hc1 : 1 ≤ W0.count false := List.one_le_count_iff.mpr (by rw [← hat]; exact List.getElem_mem hx)
    have hcs : (W0.set x.toNat true).count false + 1 = W0.count false := by
     rw [List.count_set hx, hat]
     simp
     omega
    have hmul : (W0.set x.toNat true).count false * (B + 1) + (B + 1) = W0.count false * (B + 1) := by rw [← hcs, Nat.add_mul, Nat.one_mul]
    obtain ⟨W, hr, cr⟩ := ih (t ++ nn x) (W0.set x.toNat true) (by rw [List.length_append]; omega) (by omega) (by rw [List.length_set]; exact hl)
    have hbx : rdOf false (W0.set x.toNat true) x = true := by rw [bit_setG hx, if_pos rfl]
    have hup : ∀ y, rdOf false W0 y = true → rdOf false (W0.set x.toNat true) y = true := fun y hy => by
     rw [bit_setG hx]
     split
     ·rfl
     ·exact hy
    have hdn : ∀ y, isF y = true → rdOf false (W0.set x.toNat true) y = true → y = x ∨ rdOf false W0 y = true := fun y hy hb => by
     rw [bit_setG hx] at hb
     have := hI _ hy
     by_cases e : y.toNat = x.toNat
     ·exact .inl (by omega)
     ·rw [if_neg e] at hb; exact .inr hb
    refine ⟨W, fun k hk => ?_, ⟨by rw [cr.len, List.length_set], fun y hy => cr.had y (hup y hy), fun y hy hF => ?_, fun hs => ?_, fun T h1 h2 h3 => ?_⟩⟩
    ·obtain ⟨k, rfl⟩ : ∃ q, k = q + 1 := ⟨k - 1, by omega⟩
     unfold bfsG
     rw [if_pos hc, if_pos (by omega)]
     exact hr k (by omega)
    ·rcases List.mem_cons.mp hy with hy | hy
     ·rw [hy]; exact cr.had x hbx
     ·exact cr.root y (List.mem_append_left _ hy) hF
    ·refine cr.shut (fun y hy hb z hz hF => ?_)
     rcases hdn y hy hb with e | e
     ·rw [e] at hz; exact .inr (List.mem_append_right _ hz)
     ·rcases hs y hy e z hz hF with q | q
      ·exact .inl (hup z q)
      ·rcases List.mem_cons.mp q with q | q
       ·rw [q]; exact .inl hbx
       ·exact .inr (List.mem_append_left _ q)
    ·have hTx : T x := h2 x (by simp) hc.1
     refine cr.least T (fun y hy hb => ?_) (fun y hy hF => ?_) h3
     ·rcases hdn y hy hb with e | e
      ·rw [e]; exact hTx
      ·exact h1 y hy e
     ·rcases List.mem_append.mp hy with hy | hy
      ·exact h2 y (List.mem_cons_of_mem _ hy) hF
      ·exact h3 x hTx hc.1 y hy hF
   ·obtain ⟨W, hr, cr⟩ := ih t W0 (by omega) (by omega) hl
    have hxr : isF x = true → rdOf false W0 x = true := fun hF => by
     cases e : rdOf false W0 x
     ·exact absurd ⟨hF, e⟩ hc
     ·rfl
    refine ⟨W, fun k hk => ?_, ⟨cr.len, cr.had, fun y hy hF => ?_, fun hs => ?_, fun T h1 h2 h3 => cr.least T h1 (fun y hy hF => h2 y (List.mem_cons_of_mem _ hy) hF) h3⟩⟩
    ·obtain ⟨k, rfl⟩ : ∃ q, k = q + 1 := ⟨k - 1, by omega⟩
     unfold bfsG
     rw [if_neg hc]
     exact hr k (by omega)
    ·rcases List.mem_cons.mp hy with hy | hy
     ·rw [hy] at hF ⊢; exact cr.had x (hxr hF)
     ·exact cr.root y hy hF
    ·refine cr.shut (fun y hy hb z hz hF => ?_)
     rcases hs y hy hb z hz hF with q | q
     ·exact .inl q
     ·rcases List.mem_cons.mp q with q | q
      ·rw [q] at hF ⊢; exact .inl (hxr hF)
      ·exact .inr q
/-- The document's row tells just who is reached. -/
theorem bg_same {isF : Int → Bool} {near nn : Int → List Int} {N : Nat} {l out : List Int} {W : List Bool} (hnn : ∀ x y, y ∈ near x ↔ y ∈ nn x) (hc : CameS isF near l [] out) (hb : Bg isF nn l (List.replicate (N + 1) false) W) (x : Int) (hx : isF x = true) : rdOf false W x = true ↔ x ∈ out := by
 have h0 : ∀ y, rdOf false (List.replicate (N + 1) false) y = false := fun y => by
  unfold rdOf
  rw [List.getD_eq_getElem?_getD, List.getElem?_replicate]
  split <;> rfl
 have hs := hc.shut (fun x hx => absurd hx (by simp))
 constructor
 ·intro hW
  refine hb.least (fun x => x ∈ out) (fun y _ q => by rw [h0] at q; cases q) (fun y hy hF => hc.root y hy hF) (fun y hy _ z hz hF => hs y hy z ((hnn y z).mpr hz) hF) x hx hW
 ·intro hx2
  have hsh := hb.shut (fun y _ q => by rw [h0] at q; cases q)
  exact hc.least (fun x => rdOf false W x = true) (fun y hy => absurd hy (by simp)) (fun y hy hF => hb.root y hy hF) (fun y hy hF z hz hzF => hsh y hF hy z ((hnn y z).mp hz) hzF) x hx2
theorem isSt_in {L : List (Int × Int × List Int)} {x : Int} (h : isSt L x = true) : 1 ≤ x ∧ x ≤ (L.length : Int) := of_decide_eq_true h
/-- The numbers of an object's links; of one that is freed none. -/
def linkS (S : List S43) (L : List (Int × Int × List Int)) (F : List Bool) (x : Int) : List Int := if freedO L F x = true then [] else lkF (rd_T43 S (rdS L (x - 1)).1).f1 (rdS L (x - 1)).2.2 (rd_T43 S (rdS L (x - 1)).1).f1.length
theorem linkS_len {S : List S43} (L : List (Int × Int × List Int)) (F : List Bool) (hS : ∀ x ∈ S, x.f1.length ≤ 1000) (x : Int) : (linkS S L F x).length ≤ 1000 := by
 unfold linkS
 split
 ·exact Nat.zero_le _
 ·refine Nat.le_trans (lkF_len _ _ _) ?_
  unfold rd_T43
  by_cases hj : (rdS L (x - 1)).1.toNat < S.length
  ·rw [getD_at _ _ hj]; exact hS _ (List.getElem_mem hj)
  ·rw [List.getD_eq_getElem?_getD, List.getElem?_eq_none (by omega)]; decide
/-- The same by the program. -/
def nearS (S : List S43) (L : List (Int × Int × List Int)) (F : List Bool) (x : Int) : List Int := if freedO L F x = true then [] else (linksL (rd_T43 S (rdS L (x - 1)).1).f1).map fun q => rd (rdS L (x - 1)).2.2 q
theorem nearS_len {S : List S43} (L : List (Int × Int × List Int)) (F : List Bool) (hS : ∀ x ∈ S, x.f1.length ≤ 1000) (x : Int) : (nearS S L F x).length ≤ 1000 := by
 unfold nearS
 split
 ·exact Nat.zero_le _
 ·rw [List.length_map]
  refine Nat.le_trans (linksL_len _) ?_
  unfold rd_T43
  by_cases hj : (rdS L (x - 1)).1.toNat < S.length
  ·rw [getD_at _ _ hj]; exact hS _ (List.getElem_mem hj)
  ·rw [List.getD_eq_getElem?_getD, List.getElem?_eq_none (by omega)]; decide
theorem nearS_linkS (S : List S43) (L : List (Int × Int × List Int)) (F : List Bool) (x y : Int) : y ∈ nearS S L F x ↔ y ∈ linkS S L F x := by
 unfold nearS linkS linksL
 split
 ·exact Iff.rfl
 ·rw [List.mem_map, lkF_mem]
  constructor
  ·rintro ⟨q, hq, e⟩
   obtain ⟨j, h1, h2, h3, rfl⟩ := (linksD_mem _ _ _ _).mp hq
   exact ⟨j, by omega, h3, e.symm⟩
  ·rintro ⟨j, h1, h2, e⟩
   exact ⟨(j : Int), (linksD_mem _ _ _ _).mpr ⟨j, by omega, by omega, h2, rfl⟩, e.symm⟩
/-- A bit of a row is written. -/
theorem bitV {e base b n c : Nat} {W : World} {ok : Nat → Prop} {xs : List Bool} (h : Kd.bool.R e W base ok (.slice (some ⟨b, 0, none⟩) n c) xs) (x : Int) (h0 : 0 ≤ x) (h1 : x < (n : Int)) : W.cell? ⟨b, x.toNat, none⟩ = some (.bool (rdOf false xs x)) ∧ W.frozen? ⟨b, x.toNat, none⟩ = false ∧
  Kd.bool.R e (W.setCell ⟨b, x.toNat, none⟩ (.bool true)) base ok (.slice (some ⟨b, 0, none⟩) n c) (xs.set x.toNat true) ∧ W.grownBy (W.setCell ⟨b, x.toNat, none⟩ (.bool true)) (some b) := by
 obtain ⟨c2, hc2, hM2, hcc2, hfz⟩ := Kd.R_elem h false x h0 h1
 have hM2' : c2 = [.bool (xs.getD x.toNat false)] := hM2
 have hcl2 := hcc2 0 _ (by rw [hM2']; rfl)
 have hfz2 := hfz 0
 have e1 : x.toNat * Kd.bool.sz + 0 = x.toNat := by show x.toNat * 1 + 0 = x.toNat; omega
 rw [e1] at hcl2 hfz2
 obtain ⟨q1, q2⟩ := Kd.R_putg (enc := Value.bool) h x true
 exact ⟨hcl2, hfz2, q1, q2⟩
section
variable {base g : Nat} {w : World} {S : List S43} {L : List (Int × Int × List Int)} {F : List Bool} {T : Nat → Prop}
theorem reachS_calls (A0 : Option Addr) (c0 : Nat) (l0 : List Int) (h : SP w base g S L F T) (hk : OkT S L) (hs : RS S) (hr0 : (Kd.int .i64).C w A0 l0.length l0) (hc0 : l0.length ≤ c0) (hl : l0.length ≤ 1000000) :
  ∃ out, CameS (isSt L) (nearS S L F) l0 [] out ∧ Calls Try.prog 59 #[ptr g, .slice A0 l0.length c0] w fun e w' => ∃ v0, e = .returned v0 ∧ (Kd.int .i64).R 3 w' w.heap.size (fun _ => True) v0 (out.mergeSort fun x y => decide (x ≤ y)) ∧ Below w.heap.size w w' := by
 have hLl := hk.len
 have hu := unseen_le (upTo L.length) []
 have hul : (upTo L.length).length = L.length := by unfold upTo; rw [List.length_map, List.length_range]
 obtain ⟨u, hue⟩ : ∃ u, u = unseen (upTo L.length) [] * (1000 + 1) := ⟨_, rfl⟩
 have hmul : u ≤ 131203072 := by
  rw [hue]
  exact Nat.mul_le_mul_right (1000 + 1) (show unseen (upTo L.length) [] ≤ 131072 by omega)
 obtain ⟨m, hm⟩ : ∃ m, m = u + l0.length := ⟨_, rfl⟩
 have q1 : unseen (upTo L.length) [] * (1000 + 1) + l0.length ≤ m := by rw [← hue]; exact Nat.le_of_eq hm.symm
 clear hue
 have q2 : m + 1000 ≤ 1000000000 := by omega
 have q3 : ([] : List Int).length + unseen (upTo L.length) [] ≤ 1000000000 := by rw [List.length_nil]; omega
 obtain ⟨out, hrun, hc⟩ := reach_runS (isF := isSt L) (near := nearS S L F) (fun x hx => List.mem_map.mpr ⟨(x - 1).toNat, List.mem_range.mpr (by have := isSt_in hx; omega), by have := isSt_in hx; omega⟩) (fun x _ => nearS_len L F hs.fields x) m l0 [] q1 q2 q3 (fun x hx => absurd hx (by simp)) List.nodup_nil
 refine ⟨out, hc, ?_⟩
 refine store_Reach.any (ptr g) (isSt L) (freedO L F) (fun x => some (nearS S L F x)) _ A0 c0 l0 out w (fun w' x hb => store_is.calls x (h.below hb)) (fun w' x hb hx => ?_) (fun x hx => by show some (nearS S L F x) = some []; unfold nearS; rw [if_pos hx]) (fun w' x ns hb hx hf hns => ?_) (fun x hx => ?_) hr0 hc0 hl (hrun _ (Nat.lt_succ_self _)) (by have := hc.len; show out.length < 1099511627776; omega)
 ·obtain ⟨n, rfl, hn⟩ := isSt_at hx
  exact store_isFreed.calls n (h.below hb) hn
 ·obtain rfl := Option.some.inj hns
  obtain ⟨n, rfl, hn⟩ := isSt_at hx
  obtain ⟨o0, o1, o2⟩ := hk.all _ (rdS_mem hn)
  have hmS : rd_T43 S (rdS L (n : Int)).1 ∈ S := by
   unfold rd_T43
   rw [getD_at _ _ (by omega)]
   exact List.getElem_mem _
  obtain ⟨k, hlk⟩ := hs.links _ hmS
  have hf1 := hs.fields _ hmS
  have h9 := store_links.calls k n (rdS L (n : Int)) _ _ (h.below hb) hk hn rfl rfl hlk (fun q hq => by
   have := linksL_in _ _ _ q hq
   omega) (by have := linksL_len (rd_T43 S (rdS L (n : Int)).1).f1; omega)
  have e : nearS S L F ((n : Int) + 1) = (linksL (rd_T43 S (rdS L (n : Int)).1).f1).map fun q => rd (rdS L (n : Int)).2.2 q := by
   unfold nearS
   rw [if_neg (by rw [hf]; decide), show (n : Int) + 1 - 1 = n by omega]
  rw [e]
  exact h9
 ·have := isSt_in hx
  have := hk.len
  omega
set_option maxRecDepth 100000 in
set_option maxHeartbeats 16000000 in
theorem ref12_Reach.calls (k : Nat) (A0 : Option Addr) (c0 : Nat) (l0 : List Int) (Wr : List Bool) (h : SW w base g S L F T) (hk : OkT S L) (hs : RS S) (hr0 : (Kd.int .i64).C w A0 l0.length l0) (hc0 : l0.length ≤ c0) (hl : l0.length ≤ 1000000) (hq : bfsG (isSt L) (linkS S L F) k l0 (List.replicate (L.length + 1) false) = some Wr) :
  Calls Try.prog 65 #[ptr g, .slice A0 l0.length c0] w fun e w' => ∃ v0, e = .returned v0 ∧ Kd.bool.R 4 w' w.heap.size (fun _ => True) v0 Wr ∧ Below w.heap.size w w' := by
 have hLl := hk.len
 have HOK := Aside0.mk hk; have HRS := Aside0.mk hs; have HR0 := Aside0.mk hr0; have HC0 := Aside0.mk hc0; have HQ := Aside0.mk hq
 obtain ⟨sv, lv, fv, sok, lok, fok, h, -⟩ := h
 obtain ⟨Lq, hLq⟩ : ∃ Lq, Lq = L4 L F := ⟨_, rfl⟩
 have hLql : Lq.length = L.length := by rw [hLq, L4_len]
 rw [← hLq] at h
 have HLQ := Aside0.mk hLq; clear hLq
 obtain ⟨Al, cl, el, hcl, hm⟩ := h.list
 rw [hLql] at el hcl hm
 subst el
 have H := Aside0.mk h
 obtain ⟨q0, q1, _, _, _, _⟩ := bk3 h.blk
 have hwl : IntKind.i64.wrap ((L.length : Int) + 1) = (L.length : Int) + 1 := by rw [IntKind.wrap_i64]; omega
 clear h hk hs hr0 hc0 hq hcl
 go_enter Try.func65, Try.ntmps65
 go_wp2_with (first | ((with_reducible refine gate_dst (N := 17) rfl ?_); refine Kd.R_make (w0 := w) Kd.bool w.heap.size 4 rfl (N := 17) rfl 39 _ _ rfl ((L.length : Int) + 1) rfl rfl Try.underlying39 (.bool false) 1 infoBo rfl (by decide) (by decide) false (ok := fun _ => True) (okp := fun _ => False) (show Kd.M Kd.bool _ _ _ false [.bool false] from rfl) (fun _ hk => hk.elim) trivial (by omega) ?aN (Below.refl _ _) (Nat.le_refl _) ?_; (case aN => omega); intro v1 w1 hR1 hb1 hg1 hn1; (rw [show ((L.length : Int) + 1).toNat = L.length + 1 by omega] at hR1); have HR1 := Aside0.mk hR1; have HB1 := Aside0.mk hb1; clear hR1 hb1 hg1 hn1) | ((with_reducible refine gate_dst (N := 18) rfl ?_); refine Kd.R_lit (Kd.int .i64) (w0 := w) w.heap.size 3 ?hg (N := 18) ?hd (xs := ([] : List Int)) (inner := []) (ok := fun k => some k ≠ v1.ownBlock) (okp := fun _ => False) ?hr ?hp (fun _ hk => hk.elim) ?hf HB1.out HB1.out.size (by simp) ?_; (case hd => rfl); (case hg => rfl); (case hr => first | (go_simp; done) | (go_simp; rfl)); (case hp => exact Reps.none _ _); (case hf => exact fun e => by have := Kd.R_lt HR1.out _ e.symm; omega); intro v2 w2 ho2 hb2 hg2 hn2; have HT2 := Aside0.mk ho2; have HB2 := Aside0.mk hb2; have HR2 : Aside0 (Kd.bool.R 4 w2 w.heap.size (fun _ => True) v1 (List.replicate (L.length + 1) false)) := ⟨Kd.R_grown HR1.out hg2 (fun k _ e => by cases e)⟩; clear ho2 hb2 hg2 hn2))
 obtain ⟨b, cw, ev, hb0, hb1, _⟩ := Kd.R_form HR2.out (by rw [List.length_replicate]; omega)
 rw [List.length_replicate] at ev
 subst ev
 obtain ⟨R0, hR0⟩ : ∃ R0, R0 = List.replicate (L.length + 1) false := ⟨_, rfl⟩
 have HR0L : Aside0 (R0.length = L.length + 1) := ⟨by rw [hR0, List.length_replicate]⟩
 rw [← hR0] at HR2 HQ
 have HW : Aside0 (Kd.bool.R 4 w2 w.heap.size (fun k => k = b) (.slice (some ⟨b, 0, none⟩) (L.length + 1) cw) R0) := ⟨Kd.R_mono (Kd.R_tight rfl HR2.out) (fun k hk => by have h_ : some k = some b := hk; injection h_)⟩
 have HT : Aside0 ((Kd.int .i64).Q 3 w2 w.heap.size (fun k => k ≠ b) v2 []) := ⟨Kd.Q_mono (Kd.Q_of_R HT2.out) (fun k hk e => hk (by rw [e]; rfl))⟩
 have HBL : Aside0 (w.heap.size ≤ b) := ⟨hb0⟩
 clear HR1 HB1 HT2 HR2 hb0 hb1 hR0
 go_loopw [6, 7] (fun v6 v7 wr => ∃ i : Nat, v7 = .int .i64 i ∧ i ≤ l0.length ∧ Aside0 ((Kd.int .i64).Q 3 wr w.heap.size (fun k => k ≠ b) v6 (l0.take i)) ∧ Aside0 (Kd.bool.R 4 wr w.heap.size (fun k => k = b) (.slice (some ⟨b, 0, none⟩) (L.length + 1) cw) R0) ∧ Aside0 (Below w.heap.size w wr)) (fun _ v7 _ => l0.length - (intOf v7).toNat)
 case atStart => exact ⟨0, rfl, Nat.zero_le _, ⟨by rw [List.take_zero]; exact HT.out⟩, HW, HB2⟩
 case round =>
  clear HT HW HB2
  obtain ⟨i, rfl, hi, HT, HW, HB⟩ := hrel
  by_cases hlt : i < l0.length
  ·have hlti : (i : Int) < (l0.length : Int) := by omega
   obtain ⟨a0, e0, hx0⟩ := Kd.at_int (Kd.C_below HR0.out HB.out) (i : Int) (by omega) (by omega)
   subst e0
   simp only [Int.toNat_natCast] at hx0
   obtain ⟨x, hx⟩ : ∃ x, x = rd l0 (i : Int) := ⟨_, rfl⟩
   rw [← hx] at hx0
   have HTN : Aside0 (l0.take (i + 1) = l0.take i ++ [x]) := ⟨by rw [take_nextI l0 0 hlt, hx]; unfold rd; rw [Int.toNat_natCast]⟩
   obtain ⟨tk, htk⟩ : ∃ tk, tk = l0.take i := ⟨_, rfl⟩
   have HTL : Aside0 (tk.length ≤ 1000000) := ⟨by rw [htk, List.length_take]; omega⟩
   rw [← htk] at HT HTN
   clear hx htk
   go_wp2_with (at_builtin; refine Kd.Q_append (Kd.int .i64) (w0 := w) w.heap.size rfl (.tmp 25) (.tmp 30) 45 3 (.int .i64 0) 8 rfl Try.underlying45 infoIn rfl (by decide) (by decide) _ tk x [.int .i64 x] (fun k => k ≠ b) (fun _ => False) rfl rfl ?aP (fun _ hk => hk.elim) ?aF HT.out HB.out HB.out.size ?aL ?_)
   case aP => exact rfl
   case aF => exact fun k hk e => by have := Kd.R_lt HW.out b rfl; omega
   case aL => have := HTL.out; omega
   intro v5 w5 hq5 hb5 hg5 hat5
   have HB5 := Aside0.mk hb5
   have HT5 : Aside0 ((Kd.int .i64).Q 3 w5 w.heap.size (fun k => k ≠ b) v5 (l0.take (i + 1))) := ⟨by rw [HTN.out]; exact hq5⟩
   have HW5 := Aside0.mk (Kd.R_grown HW.out hg5 (fun k hk e => HT.out.1 k e.symm hk))
   clear hq5 hb5 hg5 hat5 HT HW HB
   go_wp2
   go_roundw
   case rel => exact ⟨i + 1, by go_num, by omega, HT5, HW5, HB5⟩
   case measure => simp [intOf]; omega
  ·obtain rfl : i = l0.length := by omega
   rw [List.take_length] at HT
   go_wp2_with fail
   go_loopg [6, 8, 9, 10] k (fun kq v6 _ _ _ wr => ∃ (todo : List Int) (W : List Bool), Aside0 (bfsG (isSt L) (linkS S L F) kq todo W = some Wr) ∧ Aside0 (W.length = L.length + 1) ∧ Aside0 ((Kd.int .i64).Q 3 wr w.heap.size (fun k => k ≠ b) v6 todo) ∧ Aside0 (Kd.bool.R 4 wr w.heap.size (fun k => k = b) (.slice (some ⟨b, 0, none⟩) (L.length + 1) cw) W) ∧ Aside0 (Below w.heap.size w wr))
   case atStart => exact ⟨l0, R0, HQ, HR0L, HT, HW, HB⟩
   case round =>
    clear HQ HT HW HB HR0L
    obtain ⟨todo, W, HQ, HWL, HT, HW, HB⟩ := hrel
    cases gk with
    | zero => exact absurd HQ.out (by simp [bfsG])
    | succ kq =>
    obtain ⟨A, c, rfl, hc, hC⟩ := Kd.Q_reads HT.out
    cases todo with
    | nil =>
     have hW : W = Wr := by have := HQ.out; simpa [bfsG] using this
     subst hW
     clear hC hc HT
     simp only [List.length_nil]
     go_wp2
     go_ret
     exact ⟨_, rfl, Kd.R_mono HW.out (fun _ _ => trivial), HB.out⟩
    | cons x t =>
     obtain ⟨ad, ea, hx0⟩ := Kd.at_int hC 0 (by omega) (by simp)
     cases ea
     have hx1 : wr.cell? ad = some (.int .i64 x) := by rw [show (0 : Int).toNat = 0 from rfl, Addr.add_zero'] at hx0; exact hx0
     obtain ⟨A2, c2, hcut, hq2⟩ := cut_queue (P := Try.prog) (t := 45) (e := 3) Try.underlying45 (by kernel_rfl) HT.out
     have HT2 := Aside0.mk hq2
     have hq := HQ.out
     unfold bfsG at hq
     obtain ⟨q0, q1, _, _, _, _⟩ := bk3 (H.out.below HB.out).blk
     clear hC hx0 hq2 HT HQ hc
     by_cases h1 : x < 1
     ·have d1 : decide (x < 1) = true := decide_eq_true h1
      rw [if_neg (fun q => by have := isSt_in q.1; omega)] at hq
      have HQ2 := Aside0.mk hq; clear hq
      go_wp2
      go_roundg kq
      case rel => exact ⟨t, W, HQ2, HWL, HT2, HW, HB⟩
      case measure => omega
     ·have d1 : decide (x < 1) = false := decide_eq_false h1
      by_cases h2 : x > (L.length : Int)
      ·have d2 : decide (x > (L.length : Int)) = true := decide_eq_true h2
       rw [if_neg (fun q => by have := isSt_in q.1; omega)] at hq
       have HQ2 := Aside0.mk hq; clear hq
       go_wp2
       go_roundg kq
       case rel => exact ⟨t, W, HQ2, HWL, HT2, HW, HB⟩
       case measure => omega
      ·have d2 : decide (x > (L.length : Int)) = false := decide_eq_false h2
       obtain ⟨p, rfl⟩ : ∃ p : Nat, x = p := ⟨x.toNat, by omega⟩
       obtain ⟨b0, b1, b2, b3⟩ := bitV HW.out (p : Int) (by omega) (by omega)
       simp only [Int.toNat_natCast] at b0 b1 b2 b3
       have hpl : (p : Int) < ((L.length : Int) + 1) := by omega
       have hpl2 : p < L.length + 1 := by omega
       have hF : isSt L (p : Int) = true := decide_eq_true (by omega)
       cases hbit : rdOf false W (p : Int) with
       | true =>
        rw [hbit] at b0
        rw [if_neg (fun q => by rw [hbit] at q; cases q.2)] at hq
        have HQ2 := Aside0.mk hq; clear hq b2 b3 hbit
        go_wp2
        go_roundg kq
        case rel => exact ⟨t, W, HQ2, HWL, HT2, HW, HB⟩
        case measure => omega
       | false =>
        rw [hbit] at b0
        rw [if_pos ⟨hF, hbit⟩] at hq
        by_cases hlim : t.length + (linkS S L F (p : Int)).length < LIMR
        case neg => rw [if_neg hlim] at hq; cases hq
        rw [if_pos hlim, Int.toNat_natCast] at hq
        have HQ2 := Aside0.mk hq; have HLIM := Aside0.mk hlim
        have HW3 := Aside0.mk b2
        have HT3 := Aside0.mk (Kd.Q_far HT2.out (p := ⟨b, p, none⟩) (fun k hk => hk) (.bool true))
        have HB3 := Aside0.mk (HB.out.setCell (p := ⟨b, p, none⟩) HBL.out (.bool true))
        have HWL3 : Aside0 ((W.set p true).length = L.length + 1) := ⟨by rw [List.length_set]; exact HWL.out⟩
        clear hq hlim hbit b2 b3 HT2 HW HB HWL hF
        go_wp2_with fail
        generalize wr.setCell ⟨b, p, none⟩ (.bool true) = w3 at HW3 HT3 HB3 ⊢
        obtain ⟨n, hpn⟩ : ∃ n : Nat, p = n + 1 := ⟨p - 1, by omega⟩
        have en : (p : Int) - 1 = n := by omega
        have hw : IntKind.i64.wrap ((p : Int) - 1) = n := by rw [en, IntKind.wrap_i64]; omega
        have hn : n < L.length := by omega
        have hnl : (n : Int) < (L.length : Int) := by omega
        obtain ⟨o, ho⟩ : ∃ o, o = rdS L (n : Int) := ⟨_, rfl⟩
        obtain ⟨o0, o1, o2⟩ := HOK.out.all _ (rdS_mem hn)
        rw [← ho] at o0 o1 o2
        obtain ⟨m, hm'⟩ : ∃ m : Nat, o.1 = m := ⟨o.1.toNat, by omega⟩
        rw [hm'] at o1 o2
        obtain ⟨y, hy⟩ : ∃ y, y = rd_T43 S (m : Int) := ⟨_, rfl⟩
        rw [← hy] at o2
        obtain ⟨fz, hfz⟩ : ∃ fz, fz = freedO L F (p : Int) := ⟨_, rfl⟩
        have HLF : Aside0 (linkS S L F (p : Int) = if fz = true then [] else lkF y.f1 o.2.2 y.f1.length) := ⟨by unfold linkS; rw [en, ← ho, hm', ← hy, ← hfz]⟩
        have HO2 := Aside0.mk o2
        have HYL : Aside0 (y.f1.length ≤ 1000) := ⟨HRS.out.fields y (by rw [hy]; unfold rd_T43; rw [getD_at _ _ (by omega)]; exact List.getElem_mem _)⟩
        rw [HLF.out] at HLIM HQ2
        obtain ⟨adL, clL, Ao, co, hA, hclL, q2, _, qf, q3, hoc, hCo⟩ := H.out.elem (n : Int) (by omega) (by rw [hLql]; omega)
        rw [hLql] at hA
        cases hA
        have ero : rdU Lq (n : Int) = mkU F o := by rw [HLQ.out, rdU_L4 hn, ho]
        rw [ero] at hoc hCo q2 q3 qf
        have e22 : (mkU F o).2.2.2 = o.2.2 := rfl
        have e21 : (mkU F o).1 = o.1 := rfl
        have e2f : (mkU F o).2.2.1 = fz := by rw [hfz, ho]; unfold mkU freedO; rw [en]
        rw [e22] at hoc hCo q3
        rw [e21] at q2
        rw [e2f] at qf
        have HCO := Aside0.mk hCo; have HOC := Aside0.mk hoc
        obtain ⟨As, cs, hsv, hlcs, hCS⟩ := H.out.structs
        subst hsv
        obtain ⟨sd, B1, d1, e2, s0, s1, hld, hCd⟩ := at_T43 hCS (m : Int) (by omega) (by omega)
        subst e2
        rw [← hy] at hld hCd s0 s1
        have HCD := Aside0.mk hCd; have HLD := Aside0.mk hld
        clear hCo hoc hCS hld hCd hclL ero e22 e21 e2f
        obtain ⟨q0, q1, _, _, _, _⟩ := bk3 (H.out.below HB3.out).blk
        simp only [Int.toNat_natCast] at q2 q3 s0 s1 qf
        rw [hm'] at q2
        replace q2 := pw_cell_below HB3.out q2
        have HQ3 := Aside0.mk q3; have HQF := Aside0.mk qf
        replace q3 := pw_cell_below HB3.out q3
        replace s0 := pw_cell_below HB3.out s0
        replace s1 := pw_cell_below HB3.out s1
        have hsm : S.length ≤ 9223372036854775807 := by have := HRS.out.len; omega
        clear hy o2 hpn ho hm' hfz qf
        go_quiet (fail)
        have HT4 : Aside0 ((Kd.int .i64).Q 3 (w3.drewN nq) w.heap.size (fun k => k ≠ b) (.slice A2 t.length c2) t) := ⟨Kd.Q_drewN HT3.out nq⟩
        have HW4 : Aside0 (Kd.bool.R 4 (w3.drewN nq) w.heap.size (fun k => k = b) (.slice (some ⟨b, 0, none⟩) (L.length + 1) cw) (W.set p true)) := ⟨Kd.R_drewN HW3.out nq⟩
        have HB4 : Aside0 (Below w.heap.size w (w3.drewN nq)) := ⟨pw_below_drewN HB3.out nq⟩
        clear q0 q1 q2 q3 s0 s1 HT3 HW3 HB3 hcut b0 b1 hx1
        generalize w3.drewN nq = w4 at HT4 HW4 HB4 ⊢
        have hyl : y.f1.length ≤ 9223372036854775807 := by have := HYL.out; omega
        cases fz with
        | true =>
         rw [if_pos rfl, List.append_nil] at HQ2
         obtain ⟨q0, q1, _, _, _, _⟩ := bk3 (H.out.below HB4.out).blk
         have qf := pw_cell_below HB4.out HQF.out
         go_wp2_with fail
         go_loopw [6, 10] (fun v6 v10 wr => v6 = .slice A2 t.length c2 ∧ v10 = .int .i64 0 ∧ Aside0 ((Kd.int .i64).Q 3 wr w.heap.size (fun k => k ≠ b) (.slice A2 t.length c2) t) ∧ Aside0 (Kd.bool.R 4 wr w.heap.size (fun k => k = b) (.slice (some ⟨b, 0, none⟩) (L.length + 1) cw) (W.set p true)) ∧ Aside0 (Below w.heap.size w wr)) (fun _ _ _ => 0)
         case atStart => exact ⟨rfl, rfl, HT4, HW4, HB4⟩
         case round =>
          clear HT4 HW4 HB4 q0 q1 qf
          obtain ⟨rfl, rfl, HTj, HWj, HBj⟩ := hrel
          obtain ⟨q0, q1, _, _, _, _⟩ := bk3 (H.out.below HBj.out).blk
          have qf := pw_cell_below HBj.out HQF.out
          go_wp2
          go_roundg kq
          case rel => exact ⟨_, _, HQ2, HWL3, HTj, HWj, HBj⟩
          case measure => omega
        | false =>
        rw [if_neg (by decide)] at HQ2 HLIM
        go_wp2_with fail
        go_loopw [6, 10] (fun v6 v10 wr => ∃ j : Nat, v10 = .int .i64 j ∧ j ≤ y.f1.length ∧ Aside0 ((Kd.int .i64).Q 3 wr w.heap.size (fun k => k ≠ b) v6 (t ++ lkF y.f1 o.2.2 j)) ∧ Aside0 (Kd.bool.R 4 wr w.heap.size (fun k => k = b) (.slice (some ⟨b, 0, none⟩) (L.length + 1) cw) (W.set p true)) ∧ Aside0 (Below w.heap.size w wr)) (fun _ v10 _ => y.f1.length - (intOf v10).toNat)
        case atStart => exact ⟨0, rfl, Nat.zero_le _, ⟨by unfold lkF; rw [List.append_nil]; exact HT4.out⟩, HW4, HB4⟩
        case round =>
         clear HT4 HW4 HB4
         obtain ⟨j, rfl, hj, HTj, HWj, HBj⟩ := hrel
         obtain ⟨q0, q1, _, _, _, _⟩ := bk3 (H.out.below HBj.out).blk
         have qf := pw_cell_below HBj.out HQF.out
         by_cases hjl : j < y.f1.length
         ·have hjli : (j : Int) < (y.f1.length : Int) := by omega
          obtain ⟨fd, e3, f0, f1⟩ := at_T48 (Kd.C_below HCD.out HBj.out) (j : Int) (by omega) (by omega)
          subst e3
          simp only [Int.toNat_natCast] at f0 f1
          obtain ⟨ty, hty⟩ : ∃ ty, ty = (rd_T48 y.f1 (j : Int)).f1 := ⟨_, rfl⟩
          rw [← hty] at f1
          obtain ⟨es, hes⟩ : ∃ es, es = (elemS ty).1 := ⟨_, rfl⟩
          have HLK : Aside0 (lkF y.f1 o.2.2 (j + 1) = lkF y.f1 o.2.2 j ++ (if es.toList = [] then [] else [rd o.2.2 (j : Int)])) := ⟨by
           rw [hes, hty]
           unfold rd_T48
           rw [Int.toNat_natCast]
           rfl⟩
          obtain ⟨ke, hke⟩ := (relem_ev ty).rounds
          rw [← hes] at hke
          have HKE := Aside0.mk hke
          clear hes hty hke f0
          go_wp2_with fail
          refine (truantref03_Elem.calls ke ty es wr HKE.out).mono ?_
          rintro e w5 ⟨rfl, hb5⟩
          have HB5 := Aside0.mk (below_step HBj.out hb5); have HT5 := Aside0.mk (Kd.Q_below HTj.out hb5); have HW5 := Aside0.mk (Kd.R_below HWj.out hb5)
          clear hb5 f1 HTj HWj HBj HKE q0 q1 qf
          by_cases hem : es.toList = []
          ·have hne : (es.toList == ([] : List UInt8)) = true := by rw [hem]; rfl
           have hne2 : (es.toList != ([] : List UInt8)) = false := by rw [hem]; rfl
           have HT6 : Aside0 ((Kd.int .i64).Q 3 w5 w.heap.size (fun k => k ≠ b) u6 (t ++ lkF y.f1 o.2.2 (j + 1))) := ⟨by rw [HLK.out, if_pos hem, List.append_nil]; exact HT5.out⟩
           clear HT5 HLK
           go_wp2
           go_roundw
           case rel => exact ⟨j + 1, by go_num, by omega, HT6, HW5, HB5⟩
           case measure => simp [intOf]; omega
          ·have hne : (es.toList == ([] : List UInt8)) = false := beq_eq_false_iff_ne.mpr hem
           have hne2 : (es.toList != ([] : List UInt8)) = true := by rw [bne, hne]; rfl
           obtain ⟨z, hz⟩ : ∃ z, z = rd o.2.2 (j : Int) := ⟨_, rfl⟩
           have HLK2 : Aside0 (t ++ lkF y.f1 o.2.2 (j + 1) = (t ++ lkF y.f1 o.2.2 j) ++ [z]) := ⟨by rw [HLK.out, if_neg hem, ← hz, List.append_assoc]⟩
           have HTL : Aside0 ((t ++ lkF y.f1 o.2.2 j).length ≤ 2000000000000) := ⟨by
            have h5 := lkF_len y.f1 o.2.2 j
            have h6 := lkF_len y.f1 o.2.2 y.f1.length
            have h7 := HLIM.out
            have h8 := HYL.out
            unfold LIMR at h7
            rw [List.length_append]; omega⟩
           have hj2 : (j : Int) < (o.2.2.length : Int) := by have := HO2.out; omega
           obtain ⟨ak, eak, hkc⟩ := Kd.at_int (Kd.C_below HCO.out HB5.out) (j : Int) (by omega) (by omega)
           simp only [Int.toNat_natCast] at hkc
           rw [← hz] at hkc
           obtain ⟨q0, q1, _, _, _, _⟩ := bk3 (H.out.below HB5.out).blk
           have q3 := pw_cell_below HB5.out HQ3.out
           rw [eak] at q3
           have hom : o.2.2.length ≤ 9223372036854775807 := by have := HO2.out; have := HYL.out; omega
           clear hz HLK eak
           go_wp2_with (at_builtin; refine Kd.Q_append (Kd.int .i64) (w0 := w) w.heap.size rfl (.tmp 101) (.tmp 114) 45 3 (.int .i64 0) 8 rfl Try.underlying45 infoIn rfl (by decide) (by decide) _ (t ++ lkF y.f1 o.2.2 j) z [.int .i64 z] (fun k => k ≠ b) (fun _ => False) rfl rfl ?aP (fun _ hk => hk.elim) ?aF HT5.out HB5.out HB5.out.size ?aL ?_)
           case aP => exact rfl
           case aF => exact fun k hk e => by have := Kd.R_lt HW5.out b rfl; omega
           case aL => have := HTL.out; omega
           intro v7 w7 hq7 hb7 hg7 hat7
           have HB7 := Aside0.mk hb7
           have HT7 : Aside0 ((Kd.int .i64).Q 3 w7 w.heap.size (fun k => k ≠ b) v7 (t ++ lkF y.f1 o.2.2 (j + 1))) := ⟨by rw [HLK2.out, List.append_assoc]; exact hq7⟩
           have HW7 := Aside0.mk (Kd.R_grown HW5.out hg7 (fun k hk e => HT5.out.1 k e.symm hk))
           clear hq7 hb7 hg7 hat7 HT5 HW5 HB5 q0 q1 q3 hkc
           go_wp2
           go_roundw
           case rel => exact ⟨j + 1, by go_num, by omega, HT7, HW7, HB7⟩
           case measure => simp [intOf]; omega
         ·obtain rfl : j = y.f1.length := by omega
          go_wp2
          go_roundg kq
          case rel => exact ⟨_, _, HQ2, HWL3, HTj, HWj, HBj⟩
          case measure => omega
end
end Go.Proofs.Ytonmlncejikbiaa.Q
