/- What the row of StoreFrees rests on, part 2: contracts of the functions that it reaches, and the plain law. -/
import Derived.Test.YtonmlncejikbiaaJStoreFrees1
/- StoreFrees: by hand; written by wip/tool/stfrees.py. -/
namespace Go.Proofs.Ytonmlncejikbiaa.Q
open Go.RowKit Go.Proofs.YtonmlncejikbiaaW.PrintWords Go.Proofs.YtonmlncejikbiaaW.PrintLast Go.Proofs.YtonmlncejikbiaaW.PrintMore
set_option linter.unusedVariables false
set_option linter.unusedSimpArgs false
def truantlaw12_StoreFrees.f (k : Nat) (l0 : List (S43)) (l1 : List (S94)) : Option (Bool) :=
 (truantlaw12_great.f k l0).bind fun gr => if gr = true then some true else if (l1.length : Int) > 80 then some true else (kind_Check.f k l0).bind fun p => if okSt l0 = true then some true else none
/-- Who was left is told. -/
structure Jv (L : List (Int × Int × List Int)) (F : List Bool) (left : List Int) : Prop where
 lin : ∀ f ∈ left, 1 ≤ f ∧ f ≤ (F.length : Int)
 lef : ∀ f : Int, 1 ≤ f → f ≤ (F.length : Int) → (openF F f = false ↔ f ∈ left)
 obj : ∀ x ∈ L, x.2.1 = 0 ∨ (1 ≤ x.2.1 ∧ x.2.1 ≤ (F.length : Int))
theorem Jv.start : Jv [] [] [] := ⟨fun f hf => (nomatch hf), fun f h1 h2 => absurd h2 (by rw [List.length_nil]; omega), fun x hx => (nomatch hx)⟩
theorem openF_range {F : List Bool} {f : Int} (h : openF F f = true) : 1 ≤ f ∧ f ≤ (F.length : Int) := by
 unfold openF at h
 rw [Bool.and_eq_true] at h
 exact of_decide_eq_true h.1
theorem contains_false {l : List Int} {f : Int} (h : f ∉ l) : l.contains f = false := by
 rw [Bool.eq_false_iff]; intro h2; exact h (by rwa [List.contains_iff_mem] at h2)
theorem Jv.frees {L : List (Int × Int × List Int)} {F : List Bool} {left : List Int} (h : Jv L F left) {n : Nat} (hn : n < L.length) : left.contains (frameS L ((n : Int) + 1)) = freedO L F ((n : Int) + 1) := by
 have e1 : (n : Int) + 1 - 1 = n := by omega
 have hi : isSt L ((n : Int) + 1) = true := decide_eq_true (by omega)
 unfold frameS freedO
 rw [if_pos hi, e1]
 have hm : rdS L (n : Int) ∈ L := rdS_mem hn
 rcases h.obj _ hm with h0 | ⟨h1, h2⟩
 ·rw [h0]
  rw [contains_false (fun hm => by have := h.lin _ hm; omega)]
  rfl
 ·have d1 : ((rdS L (n : Int)).2.1 != 0) = true := bne_iff_ne.mpr (by omega)
  rw [d1, Bool.true_and]
  have h3 := h.lef _ h1 h2
  cases ho : openF F (rdS L (n : Int)).2.1 with
  | false => rw [List.contains_iff_mem.mpr (h3.mp ho)]; rfl
  | true => rw [contains_false (fun hm => by rw [h3.mpr hm] at ho; cases ho)]; rfl
theorem Jv.open {L : List (Int × Int × List Int)} {F : List Bool} {left : List Int} (h : Jv L F left) {o : Int} (ho : o ∈ openTo F F.length) : left.contains o = false := by
 unfold openTo at ho
 rw [List.mem_map] at ho
 obtain ⟨i, hi, rfl⟩ := ho
 rw [List.mem_filter, List.mem_range] at hi
 refine contains_false (fun hm => ?_)
 have h2 := (h.lef ((i : Int) + 1) (by omega) (by omega)).mpr hm
 unfold openF at h2
 have e1 : (i : Int) + 1 - 1 = i := by omega
 have e2 : rdOf false F (i : Int) = F.getD i false := by unfold rdOf; rw [Int.toNat_natCast]
 rw [decide_eq_true (by omega), Bool.true_and, e1, e2, hi.2] at h2
 cases h2
theorem openF_put (F : List Bool) (f : Int) (h2 : f ≤ (F.length : Int)) : openF (F ++ [true]) f = openF F f := by
 unfold openF
 by_cases h1 : 1 ≤ f
 ·rw [decide_eq_true (show 1 ≤ f ∧ f ≤ ((F ++ [true]).length : Int) from ⟨h1, by simp; omega⟩), decide_eq_true (show 1 ≤ f ∧ f ≤ (F.length : Int) from ⟨h1, h2⟩)]
  unfold rdOf
  rw [List.getD_eq_getElem?_getD, List.getElem?_append_left (by omega), ← List.getD_eq_getElem?_getD]
 ·rw [decide_eq_false (fun h => h1 h.1), decide_eq_false (fun h => h1 h.1)]
  rfl
theorem openF_new (F : List Bool) : openF (F ++ [true]) ((F.length : Int) + 1) = true := by
 unfold openF
 rw [decide_eq_true (by simp; omega), Bool.true_and]
 unfold rdOf
 rw [show ((F.length : Int) + 1 - 1).toNat = F.length by omega, List.getD_eq_getElem?_getD, List.getElem?_append_right (Nat.le_refl _)]
 simp
theorem Jv.enter {L : List (Int × Int × List Int)} {F : List Bool} {left : List Int} (h : Jv L F left) : Jv L (F ++ [true]) left := by
 have hl : ((F ++ [true]).length : Int) = (F.length : Int) + 1 := by simp
 refine ⟨fun f hf => by have := h.lin f hf; rw [hl]; omega, fun f h1 h2 => ?_, fun x hx => by rw [hl]; have := h.obj x hx; omega⟩
 rw [hl] at h2
 by_cases e : f = (F.length : Int) + 1
 ·subst e
  rw [openF_new]
  exact ⟨fun e => (nomatch e), fun hm => by have := h.lin _ hm; omega⟩
 ·rw [openF_put F f (by omega)]
  exact h.lef f h1 (by omega)
theorem openF_shut (F : List Bool) (i f : Int) (h : openF F i = true) : openF (F.set (i - 1).toNat false) f = if f = i then false else openF F f := by
 obtain ⟨h1, h2⟩ := openF_range h
 unfold openF
 rw [List.length_set]
 by_cases hr : 1 ≤ f ∧ f ≤ (F.length : Int)
 ·rw [decide_eq_true hr, Bool.true_and, Bool.true_and]
  unfold rdOf
  split
  ·rename_i e
   subst e
   rw [List.getD_eq_getElem?_getD, List.getElem?_set_self (by omega), Option.getD_some]
  ·rw [List.getD_eq_getElem?_getD, List.getElem?_set_ne (by omega), ← List.getD_eq_getElem?_getD]
 ·rw [decide_eq_false hr]
  split <;> rfl
theorem Jv.leave {L : List (Int × Int × List Int)} {F : List Bool} {left : List Int} (h : Jv L F left) {i : Int} (ho : openF F i = true) : Jv L (leaveF F i) (left ++ [i]) := by
 obtain ⟨h1, h2⟩ := openF_range ho
 have e : leaveF F i = F.set (i - 1).toNat false := if_pos ho
 rw [e]
 have hl : (F.set (i - 1).toNat false).length = F.length := List.length_set
 refine ⟨fun f hf => ?_, fun f q1 q2 => ?_, fun x hx => by rw [hl]; exact h.obj x hx⟩
 ·rw [hl]
  rcases List.mem_append.mp hf with hf | hf
  ·exact h.lin f hf
  ·rw [List.mem_singleton.mp hf]; exact ⟨h1, h2⟩
 ·rw [hl] at q2
  rw [openF_shut F i f ho, List.mem_append, List.mem_singleton]
  split
  ·rename_i e
   exact ⟨fun _ => .inr e, fun _ => rfl⟩
  ·rename_i e
   rw [h.lef f q1 q2]
   exact ⟨.inl, fun hh => hh.elim id (fun e2 => absurd e2 e)⟩
theorem Jv.stay {L : List (Int × Int × List Int)} {F : List Bool} {left : List Int} (h : Jv L F left) {i : Int} (ho : openF F i = false) : Jv L (leaveF F i) left := by
 have e : leaveF F i = F := if_neg (by rw [ho]; decide)
 rw [e]; exact h
theorem Jv.make {S : List S43} {L : List (Int × Int × List Int)} {F : List Bool} {left : List Int} (h : Jv L F left) (nm : ByteArray) (f : Int) : Jv (mkSL S L F nm f) F left := by
 refine ⟨h.lin, h.lef, fun x hx => ?_⟩
 unfold mkSL at hx
 split at hx
 ·exact h.obj x hx
 ·rename_i hn
  rcases List.mem_append.mp hx with hx | hx
  ·exact h.obj x hx
  ·rw [List.mem_singleton.mp hx]
   by_cases hf : f = 0
   ·exact .inl hf
   ·cases ho : openF F f with
    | true => exact .inr (openF_range ho)
    | false =>
     exfalso
     refine hn (.inl ?_)
     unfold badM
     rw [ho, show (f != 0) = true from bne_iff_ne.mpr hf]
     simp
theorem Jv.set {L : List (Int × Int × List Int)} {F : List Bool} {left : List Int} (h : Jv L F left) (o f n : Int) : Jv (setS L F o f n) F left := by
 refine ⟨h.lin, h.lef, fun x hx => ?_⟩
 obtain ⟨j, hj, rfl⟩ := List.mem_iff_getElem.mp hx
 have hj2 : j < L.length := by rw [setS_len] at hj; exact hj
 have h1 := (setS_rd L F o f n (j : Int)).2.1
 have e1 : rdS (setS L F o f n) (j : Int) = (setS L F o f n)[j] := by unfold rdS; rw [Int.toNat_natCast, getD_at _ _ hj]
 rw [e1] at h1
 rw [h1]
 exact h.obj _ (rdS_mem hj2)
/-- What Get says of an object that was made. -/
theorem chkS_made (L : List (Int × Int × List Int)) (F : List Bool) {n : Nat} (hn : n < L.length) : (chkS L F ((n : Int) + 1) 0 == 14) = freedO L F ((n : Int) + 1) ∧ (chkS L F ((n : Int) + 1) 0 == 13) = false ∧ (chkS L F ((n : Int) + 1) 0 == 10) = false := by
 have hi : isSt L ((n : Int) + 1) = true := decide_eq_true (by omega)
 unfold chkS
 rw [if_neg (by omega), if_neg (by rw [hi]; decide)]
 cases hf : freedO L F ((n : Int) + 1) with
 | true => rw [if_pos rfl]; exact ⟨rfl, rfl, rfl⟩
 | false =>
  rw [if_neg (by decide)]
  split <;> exact ⟨rfl, rfl, rfl⟩
set_option maxRecDepth 100000 in
set_option maxHeartbeats 16000000 in
theorem StoreFrees.nil (k : Nat) (A0 : Option Addr) (c0 : Nat) (l0 : List (S43)) (A1 : Option Addr) (c1 : Nat) (l1 : List (S94)) (r1 r2 : Int) (w : World) (hr0 : Kd.C k43 w A0 l0.length l0) (hc0 : l0.length ≤ c0) (hr1 : Kd.C k94 w A1 l1.length l1) (hc1 : l1.length ≤ c1)
  (hg : truantlaw12_great.f k l0 = some false) (hlen : ¬ (l1.length : Int) > 80) (hck : kind_Check.f k l0 = some (r1, r2)) (hne : (r2 != 0) = true) :
  Calls Try.prog 11 #[.slice A0 l0.length c0, .slice A1 l1.length c1] w fun e w' => e = .returned (.bool true) ∧ Below w.heap.size w w' := by
 have HR0 := Aside0.mk hr0; have HC0 := Aside0.mk hc0; have HGR := Aside0.mk hg; have HCK := Aside0.mk hck; have HNE := Aside0.mk hne
 have hdl : decide ((l1.length : Int) > 80) = false := decide_eq_false hlen
 clear hr0 hc0 hr1 hg hck hne
 go_enter Try.func11, Try.ntmps11
 go_wp2_with fail
 refine (truantlaw12_awake.calls true w rfl).mono ?_
 rintro e w1 ⟨rfl, hb1⟩
 have HB1 := Aside0.mk hb1; clear hb1
 go_wp2_with fail
 refine (truantlaw12_great.calls k A0 c0 l0 false w1 (Kd.C_below HR0.out HB1.out) HC0.out HGR.out).mono ?_
 rintro e w2 ⟨rfl, hd2⟩
 have HB2 := Aside0.mk (below_step HB1.out hd2.below); clear hd2 HB1
 go_wp2_with fail
 refine (store_New.bad k A0 c0 l0 r1 r2 w2 (Kd.C_below HR0.out HB2.out) HC0.out HCK.out HNE.out).mono ?_
 rintro e w3 ⟨rfl, hb3⟩
 have HB3 := Aside0.mk (below_step HB2.out hb3); clear hb3 HB2
 go_wp2
 go_ret
 exact ⟨rfl, HB3.out⟩
set_option maxRecDepth 100000 in
set_option maxHeartbeats 16000000 in
theorem StoreFrees.there (k : Nat) (A0 : Option Addr) (c0 : Nat) (l0 : List (S43)) (A1 : Option Addr) (c1 : Nat) (l1 : List (S94)) (r1 : Int) (w : World) (hr0 : Kd.C k43 w A0 l0.length l0) (hc0 : l0.length ≤ c0) (hr1 : Kd.C k94 w A1 l1.length l1) (hc1 : l1.length ≤ c1)
  (hg : truantlaw12_great.f k l0 = some false) (hlen : ¬ (l1.length : Int) > 80) (hck : kind_Check.f k l0 = some (r1, 0)) (hok : okSt l0 = true) :
  Calls Try.prog 11 #[.slice A0 l0.length c0, .slice A1 l1.length c1] w fun e w' => e = .returned (.bool true) ∧ Below w.heap.size w w' := by
 obtain ⟨hs1, hs2⟩ := okSt_of hok
 have HS2 := Aside0.mk hs2
 have HR0 := Aside0.mk hr0; have HC0 := Aside0.mk hc0; have HR1 := Aside0.mk hr1; have HGR := Aside0.mk hg; have HCK := Aside0.mk hck; have HS1 := Aside0.mk hs1; have HLN := Aside0.mk hlen
 have hm1 := Kd.C_max hr1
 have hdl : decide ((l1.length : Int) > 80) = false := decide_eq_false hlen
 clear hr0 hc0 hr1 hg hck hok hs1 hs2 hlen
 go_enter Try.func11, Try.ntmps11
 go_wp2_with fail
 refine (truantlaw12_awake.calls true w rfl).mono ?_
 rintro e w1 ⟨rfl, hb1⟩
 have HB1 := Aside0.mk hb1; clear hb1
 go_wp2_with fail
 refine (truantlaw12_great.calls k A0 c0 l0 false w1 (Kd.C_below HR0.out HB1.out) HC0.out HGR.out).mono ?_
 rintro e w2 ⟨rfl, hd2⟩
 have HB2 := Aside0.mk (below_step HB1.out hd2.below); clear hd2 HB1
 go_wp2_with fail
 refine (store_New.calls k A0 c0 l0 r1 w2 (Kd.C_below HR0.out HB2.out) HC0.out HCK.out HS1.out HS2.out).mono ?_
 rintro e w3 ⟨g, rfl, hp3, hb3⟩
 have HB3 := Aside0.mk (below_step HB2.out hb3); have HW := Aside0.mk HB2.out.size; have H3 := Aside0.mk (hp3.mono (U := fun k => k < w3.heap.size) (fun k _ hk => hk))
 clear hb3 hp3 HB2
 generalize w2.heap.size = base at H3 HW
 go_wp2_with fail
 have HBe : Aside0 (Below w3.heap.size w3 (w3.alloc (.cells #[] 3))) := ⟨below_alloc (Below.refl _ _) _⟩
 have HR4 : Aside0 ((Kd.int .i64).R 3 (w3.alloc (.cells #[] 3)) w.heap.size (fun k => w3.heap.size ≤ k) (.slice (some ⟨w3.heap.size, 0, none⟩) 0 0) ([] : List Int)) := ⟨Kd.R_lower (lit_R (Kd.int .i64) (W := w3) w3.heap.size 3 (xs := []) (inner := []) (ok := fun k => w3.heap.size ≤ k) (okp := fun _ => False) (Reps.none _ _) (fun _ h => h.elim) (Nat.le_refl _) (Nat.le_refl _) (by decide)) HB3.out.size⟩
 have HB4 := Aside0.mk (below_step HB3.out HBe.out); have H4 := Aside0.mk (H3.out.below HBe.out)
 have HAP4 : Aside0 (∀ k, k < w3.heap.size → ¬ w3.heap.size ≤ k) := ⟨fun k h1 h2 => by omega⟩
 clear HB3 H3 HBe
 go_loopw [6, 7, 9, 10, 11, 12, 13, 14, 49, 53, 65] (fun v6 v7 _ _ _ _ _ _ _ _ _ wr => ∃ (i : Nat) (v : Value) (lf : List Int) (L : List (Int × Int × List Int)) (F : List Bool) (T U : Nat → Prop), v6 = v ∧ v7 = .int .i64 i ∧ i ≤ l1.length ∧ Aside0 (L.length ≤ i ∧ F.length ≤ i ∧ lf.length ≤ i) ∧ Aside0 (Below w.heap.size w wr) ∧ Aside0 (SP wr base g l0 L F T) ∧ Aside0 ((Kd.int .i64).R 3 wr w.heap.size U v lf) ∧ Aside0 (∀ k, T k → ¬ U k) ∧ Aside0 (Jv L F lf)) (fun _ v7 _ _ _ _ _ _ _ _ _ _ => l1.length - (intOf v7).toNat)
 case atStart => exact ⟨0, _, [], [], [], _, _, rfl, rfl, Nat.zero_le _, ⟨Nat.le_refl _, Nat.le_refl _, Nat.le_refl _⟩, HB4, H4, HR4, HAP4, ⟨Jv.start⟩⟩
 case round =>
  clear HB4 H4 HR4 HAP4
  obtain ⟨i, v, lf, L, F, Tq, U, rfl, rfl, hi, HL, HB, Hq, HR, HAPq, HJ⟩ := hrel
  obtain ⟨T, hT0⟩ : ∃ T0, T0 = (fun k => Tq k ∧ k < wr.heap.size) := ⟨_, rfl⟩
  have H : Aside0 (SP wr base g l0 L F T) := ⟨by rw [hT0]; exact Hq.out.mono (fun k hk hl => ⟨hk, hl⟩)⟩
  have HNT : Aside0 (¬ T wr.heap.size) := ⟨by rw [hT0]; exact fun h_ => by have := h_.2; omega⟩
  have HAP : Aside0 (∀ k, T k → ¬ U k) := ⟨by rw [hT0]; exact fun k hk => HAPq.out k hk.1⟩
  clear hT0 Hq HAPq
  obtain ⟨Ale, cle, ele⟩ := Kd.R_slice HR.out
  subst ele
  by_cases hlt : i < l1.length
  ·obtain ⟨ad, e1, hx0, hx1, hx2, hx3, hx4, hx5⟩ := at_T94 (Kd.C_below HR1.out HB.out) (i : Int) (by omega) (by omega)
   subst e1
   simp only [Int.toNat_natCast] at hx0 hx1 hx2 hx3 hx4 hx5
   obtain ⟨x, ex⟩ : ∃ x, x = rd_T94 l1 (i : Int) := ⟨_, rfl⟩
   rw [← ex] at hx0 hx1 hx2 hx3 hx4 hx5
   have hlti : (i : Int) < (l1.length : Int) := by omega
   have hil : i ≤ 80 := by have := HLN.out; omega
   clear ex
   obtain ⟨kd, hkd⟩ : ∃ kd, kd = x.f0 := ⟨_, rfl⟩
   rw [← hkd] at hx0
   clear hkd
   go_upto_region 13 with (fail)
   have HBa : Aside0 (Below wr.heap.size wr (wr.alloc (.cells #[.int .i64 kd, .int .i64 x.f1, .string x.f2, .int .i64 x.f3, .int .i64 x.f4, .int .i64 x.f5] 94))) := ⟨below_alloc (Below.refl _ _) _⟩
   have HXB : Aside0 ((wr.alloc (.cells #[.int .i64 kd, .int .i64 x.f1, .string x.f2, .int .i64 x.f3, .int .i64 x.f4, .int .i64 x.f5] 94)).heap[wr.heap.size]? = some (.cells #[.int .i64 kd, .int .i64 x.f1, .string x.f2, .int .i64 x.f3, .int .i64 x.f4, .int .i64 x.f5] 94 (0, 0))) := ⟨blk_new _ _⟩
   have HB2 := Aside0.mk (below_step HB.out HBa.out); have H2 := Aside0.mk (H.out.below HBa.out); have HR2 := Aside0.mk (Kd.R_below HR.out HBa.out)
   have HAP2 := HAP
   clear HB H HR HBa HAP hx0 hx1 hx2 hx3 hx4 hx5
   generalize wr.alloc (.cells #[.int .i64 kd, .int .i64 x.f1, .string x.f2, .int .i64 x.f3, .int .i64 x.f4, .int .i64 x.f5] 94) = wa at HXB HB2 H2 HR2 ⊢
   generalize wr.heap.size = nb at HXB HNT ⊢
   by_cases h1 : kd = 1
   ·as_aux_lemma =>
    subst h1
    obtain ⟨y0, y1, y2, y3, y4, y5, _⟩ := bk6 HXB.out
    go_wp2_with fail
    refine (store_Enter.calls H2.out (by have := HL.out.2.1; omega)).mono ?_
    rintro e w6 ⟨rfl, hp6, hk6, hb6⟩
    have HB6 := Aside0.mk (HB2.out.trans (hb6.mono HW.out)); have H60 := Aside0.mk hp6; have HR60 := Aside0.mk (R_beside HR2.out hk6 HAP2.out); have HAP60 := Aside0.mk (apart_l (w := wa) HAP2.out)
    have HJ6 : Aside0 (Jv (L) (F ++ [true]) lf) := ⟨HJ.out.enter⟩
    have HL6 : Aside0 ((L).length ≤ i + 1 ∧ (F ++ [true]).length ≤ i + 1 ∧ lf.length ≤ i + 1) := ⟨by have := HL.out.1; omega, by rw [List.length_append]; have := HL.out.2.1; simp only [List.length_singleton]; omega, by have := HL.out.2.2; omega⟩
    clear hp6 hk6 hb6 y0 y1 y2 y3 y4 y5 HB2 H2 HR2 HAP2 HXB HJ HL
    obtain ⟨Tz, hTz⟩ : ∃ Tz, Tz = New wa T := ⟨_, rfl⟩
    obtain ⟨Uz, hUz⟩ : ∃ Uz, Uz = (fun k => U k ∧ k < wa.heap.size) := ⟨_, rfl⟩
    rw [← hTz] at H60 HAP60
    rw [← hUz] at HR60
    have HAP6 : Aside0 (∀ k, Tz k → ¬ Uz k) := ⟨by rw [hUz]; exact HAP60.out⟩
    have H6 := H60; have HR6 := HR60
    clear hTz hUz HAP60 H60 HR60
    obtain ⟨Lz, hLz⟩ : ∃ Lz, Lz = L := ⟨_, rfl⟩
    obtain ⟨Fz, hFz⟩ : ∃ Fz, Fz = F ++ [true] := ⟨_, rfl⟩
    rw [← hLz, ← hFz] at H6 HJ6 HL6
    clear hLz hFz
    have HCL := Aside0.mk (Kd.R_reads' HR6.out).2.1
    go_wp2_with fail
    refine (store_Made.calls true H6.out).mono ?_
    rintro e w7 ⟨rfl, hb7⟩
    have HB7 := Aside0.mk (below_step HB6.out hb7); have H7 := Aside0.mk (H6.out.below hb7); have HR7 := Aside0.mk (Kd.R_below HR6.out hb7)
    clear hb7 HB6 H6 HR6
    go_wp2_with fail
    refine (store_Made.calls false H7.out).mono ?_
    rintro e w8 ⟨rfl, hb8⟩
    have HB8 := Aside0.mk (below_step HB7.out hb8); have H8 := Aside0.mk (H7.out.below hb8); have HR8 := Aside0.mk (Kd.R_below HR7.out hb8)
    clear hb8 HB7 H7 HR7
    have hma := made_all Lz (by have := HL6.out.1; omega)
    generalize madeS Lz true = m1 at hma ⊢
    generalize madeS Lz false = m2 at hma ⊢
    have hlm : Lz.length ≤ 1000 := by have := HL6.out.1; omega
    go_wp2_with fail
    go_loopw [10, 11, 12] (fun v10 _ _ wr => ∃ p : Nat, v10 = .int .i64 p ∧ 1 ≤ p ∧ p ≤ Lz.length + 1 ∧ Aside0 (Below w.heap.size w wr) ∧ Aside0 (SP wr base g l0 Lz Fz Tz) ∧ Aside0 ((Kd.int .i64).R 3 wr w.heap.size Uz (.slice Ale lf.length cle) lf)) (fun v10 _ _ _ => Lz.length + 1 - (intOf v10).toNat)
    case atStart => exact ⟨1, rfl, Nat.le_refl _, by omega, HB8, H8, HR8⟩
    case round =>
     clear HB8 H8 HR8 hma
     obtain ⟨p, rfl, hp1, hp2, HB, H, HR⟩ := hrel
     by_cases hle : p ≤ Lz.length
     ·obtain ⟨q, rfl⟩ : ∃ q, p = q + 1 := ⟨p - 1, by omega⟩
      have hlei : ((q + 1 : Nat) : Int) ≤ (Lz.length : Int) := by omega
      obtain ⟨c14, c13, c10⟩ := chkS_made Lz Fz (show q < Lz.length by omega)
      have hfr := HJ6.out.frees (show q < Lz.length by omega)
      rw [show ((q : Int) + 1) = ((q + 1 : Nat) : Int) by omega] at c14 c13 c10 hfr
      have hge := store_Get.calls ((q + 1 : Nat) : Int) 0 H.out
      generalize getS Lz Fz ((q + 1 : Nat) : Int) 0 = gv at hge
      generalize chkS Lz Fz ((q + 1 : Nat) : Int) 0 = ge at hge c14 c13 c10
      generalize freedO Lz Fz ((q + 1 : Nat) : Int) = fb at c14 hfr
      have n1 : (fb != fb) = false := bne_self_eq_false fb
      have HGE := Aside0.mk hge; have HFR := Aside0.mk hfr
      clear hge hfr
      go_wp2_with fail
      refine HGE.out.mono ?_
      rintro e w9 ⟨rfl, hb9⟩
      have HB9 := Aside0.mk (below_step HB.out hb9); have H9 := Aside0.mk (H.out.below hb9); have HR9 := Aside0.mk (Kd.R_below HR.out hb9)
      clear hb9 HB H HR HGE
      go_wp2_with fail
      refine (store_Frame.calls ((q + 1 : Nat) : Int) H9.out).mono ?_
      rintro e w10 ⟨rfl, hb10⟩
      have HB10 := Aside0.mk (below_step HB9.out hb10); have H10 := Aside0.mk (H9.out.below hb10); have HR10 := Aside0.mk (Kd.R_below HR9.out hb10)
      clear hb10 HB9 H9 HR9
      have hha := has12_calls Ale cle lf (frameS Lz ((q + 1 : Nat) : Int)) w10 (Kd.R_reads' HR10.out).2.2 HCL.out
      rw [HFR.out] at hha
      have HHA := Aside0.mk hha
      clear hha HFR
      go_wp2_with fail
      refine HHA.out.mono ?_
      rintro e w11 ⟨rfl, hb11⟩
      have HB11 := Aside0.mk (below_step HB10.out hb11); have H11 := Aside0.mk (H10.out.below hb11); have HR11 := Aside0.mk (Kd.R_below HR10.out hb11)
      clear hb11 HB10 H10 HR10 HHA
      go_wp2
      go_roundw
      case rel => exact ⟨q + 1 + 1, by go_num, by omega, by omega, HB11, H11, HR11⟩
      case measure => simp [intOf]; omega
     ·have hlei : decide ((p : Int) ≤ (Lz.length : Int)) = false := decide_eq_false (by omega)
      go_wp2_with fail
      refine (store_Open.calls H.out (by have := HL6.out.2.1; omega)).mono ?_
      rintro e w9 ⟨v9, rfl, hr9, hb9⟩
      obtain ⟨Ao, co, eo, hco, hCo⟩ := Kd.R_reads hr9
      subst eo
      have HB9 := Aside0.mk (below_step HB.out hb9); have H9 := Aside0.mk (H.out.below hb9); have HR9 := Aside0.mk (Kd.R_below HR.out hb9); have HO9 := Aside0.mk hCo
      have HOM : Aside0 (∀ o ∈ openTo Fz Fz.length, lf.contains o = false) := ⟨fun o ho => HJ6.out.open ho⟩
      have hom := Kd.C_max hCo
      clear hb9 hr9 hCo HB H HR hco
      generalize openTo Fz Fz.length = ol at HO9 HOM hom ⊢
      go_wp2_with fail
      go_loopw [14] (fun v14 wr => ∃ p : Nat, v14 = .int .i64 p ∧ p ≤ ol.length ∧ Aside0 (Below w.heap.size w wr) ∧ Aside0 (SP wr base g l0 Lz Fz Tz) ∧ Aside0 ((Kd.int .i64).R 3 wr w.heap.size Uz (.slice Ale lf.length cle) lf) ∧ Aside0 ((Kd.int .i64).C wr Ao ol.length ol)) (fun v14 _ => ol.length - (intOf v14).toNat)
      case atStart => exact ⟨0, rfl, Nat.zero_le _, HB9, H9, HR9, HO9⟩
      case round =>
       clear HB9 H9 HR9 HO9
       obtain ⟨p, rfl, hp, HB, H, HR, HO⟩ := hrel
       by_cases hlt : p < ol.length
       ·obtain ⟨ad, e1, hx⟩ := Kd.at_int HO.out (p : Int) (by omega) (by omega)
        subst e1
        simp only [Int.toNat_natCast] at hx
        obtain ⟨z, hz⟩ : ∃ z, z = rd ol (p : Int) := ⟨_, rfl⟩
        have hzm : z ∈ ol := by
         rw [hz]; unfold rd
         rw [Int.toNat_natCast, getD_at _ _ hlt]
         exact List.getElem_mem _
        rw [← hz] at hx
        have hha := has12_calls Ale cle lf z wr (Kd.R_reads' HR.out).2.2 HCL.out
        rw [HOM.out z hzm] at hha
        have HHA := Aside0.mk hha
        have hpl : (p : Int) < (ol.length : Int) := by omega
        clear hha hz hzm
        go_wp2_with fail
        refine HHA.out.mono ?_
        rintro e w10 ⟨rfl, hb10⟩
        have HB10 := Aside0.mk (below_step HB.out hb10); have H10 := Aside0.mk (H.out.below hb10); have HR10 := Aside0.mk (Kd.R_below HR.out hb10); have HO10 := Aside0.mk (Kd.C_below HO.out hb10)
        clear hb10 HB H HR HHA HO hx
        go_wp2
        go_roundw
        case rel => exact ⟨p + 1, by go_num, by omega, HB10, H10, HR10, HO10⟩
        case measure => simp [intOf]; omega
       ·clear HO HOM
        go_wp2
        go_roundw
        case rel => exact ⟨i + 1, _, lf, Lz, Fz, Tz, Uz, rfl, by go_num, by omega, HL6, HB, H, HR, HAP6, HJ6⟩
        case measure => simp [intOf]; omega
   ·have d1 : (kd == 1) = false := beq_eq_false_iff_ne.mpr h1
    by_cases h2 : kd = 2
    ·subst h2
     cases ho : openF F x.f1 with
     | false =>
      as_aux_lemma =>
       have hle : leaveE F x.f1 = 13 := if_neg (by rw [ho]; decide)
       have hlc := store_Leave.calls x.f1 H2.out
       rw [hle] at hlc
       have HLC := Aside0.mk hlc
       clear hlc hle
       obtain ⟨y0, y1, y2, y3, y4, y5, _⟩ := bk6 HXB.out
       go_wp2_with fail
       refine (HLC.out).mono ?_
       rintro e w6 ⟨rfl, hp6, hk6, hb6⟩
       have HB6 := Aside0.mk (HB2.out.trans (hb6.mono HW.out)); have H60 := Aside0.mk hp6; have HR60 := Aside0.mk (R_beside HR2.out hk6 HAP2.out); have HAP60 := Aside0.mk (apart_l (w := wa) HAP2.out)
       have HJ6 : Aside0 (Jv (L) (leaveF F x.f1) lf) := ⟨HJ.out.stay ho⟩
       have HL6 : Aside0 ((L).length ≤ i + 1 ∧ (leaveF F x.f1).length ≤ i + 1 ∧ lf.length ≤ i + 1) := ⟨by have := HL.out.1; omega, by rw [leaveF_len]; have := HL.out.2.1; omega, by have := HL.out.2.2; omega⟩
       clear hp6 hk6 hb6 y0 y1 y2 y3 y4 y5 HB2 H2 HR2 HAP2 HXB HJ HL
       obtain ⟨Tz, hTz⟩ : ∃ Tz, Tz = New wa T := ⟨_, rfl⟩
       obtain ⟨Uz, hUz⟩ : ∃ Uz, Uz = (fun k => U k ∧ k < wa.heap.size) := ⟨_, rfl⟩
       rw [← hTz] at H60 HAP60
       rw [← hUz] at HR60
       have HAP6 : Aside0 (∀ k, Tz k → ¬ Uz k) := ⟨by rw [hUz]; exact HAP60.out⟩
       have H6 := H60; have HR6 := HR60
       clear hTz hUz HAP60 H60 HR60
       obtain ⟨Lz, hLz⟩ : ∃ Lz, Lz = L := ⟨_, rfl⟩
       obtain ⟨Fz, hFz⟩ : ∃ Fz, Fz = leaveF F x.f1 := ⟨_, rfl⟩
       rw [← hLz, ← hFz] at H6 HJ6 HL6
       clear hLz hFz
       have HCL := Aside0.mk (Kd.R_reads' HR6.out).2.1
       go_wp2_with fail
       refine (store_Made.calls true H6.out).mono ?_
       rintro e w7 ⟨rfl, hb7⟩
       have HB7 := Aside0.mk (below_step HB6.out hb7); have H7 := Aside0.mk (H6.out.below hb7); have HR7 := Aside0.mk (Kd.R_below HR6.out hb7)
       clear hb7 HB6 H6 HR6
       go_wp2_with fail
       refine (store_Made.calls false H7.out).mono ?_
       rintro e w8 ⟨rfl, hb8⟩
       have HB8 := Aside0.mk (below_step HB7.out hb8); have H8 := Aside0.mk (H7.out.below hb8); have HR8 := Aside0.mk (Kd.R_below HR7.out hb8)
       clear hb8 HB7 H7 HR7
       have hma := made_all Lz (by have := HL6.out.1; omega)
       generalize madeS Lz true = m1 at hma ⊢
       generalize madeS Lz false = m2 at hma ⊢
       have hlm : Lz.length ≤ 1000 := by have := HL6.out.1; omega
       go_wp2_with fail
       go_loopw [10, 11, 12] (fun v10 _ _ wr => ∃ p : Nat, v10 = .int .i64 p ∧ 1 ≤ p ∧ p ≤ Lz.length + 1 ∧ Aside0 (Below w.heap.size w wr) ∧ Aside0 (SP wr base g l0 Lz Fz Tz) ∧ Aside0 ((Kd.int .i64).R 3 wr w.heap.size Uz (.slice Ale lf.length cle) lf)) (fun v10 _ _ _ => Lz.length + 1 - (intOf v10).toNat)
       case atStart => exact ⟨1, rfl, Nat.le_refl _, by omega, HB8, H8, HR8⟩
       case round =>
        clear HB8 H8 HR8 hma
        obtain ⟨p, rfl, hp1, hp2, HB, H, HR⟩ := hrel
        by_cases hle : p ≤ Lz.length
        ·obtain ⟨q, rfl⟩ : ∃ q, p = q + 1 := ⟨p - 1, by omega⟩
         have hlei : ((q + 1 : Nat) : Int) ≤ (Lz.length : Int) := by omega
         obtain ⟨c14, c13, c10⟩ := chkS_made Lz Fz (show q < Lz.length by omega)
         have hfr := HJ6.out.frees (show q < Lz.length by omega)
         rw [show ((q : Int) + 1) = ((q + 1 : Nat) : Int) by omega] at c14 c13 c10 hfr
         have hge := store_Get.calls ((q + 1 : Nat) : Int) 0 H.out
         generalize getS Lz Fz ((q + 1 : Nat) : Int) 0 = gv at hge
         generalize chkS Lz Fz ((q + 1 : Nat) : Int) 0 = ge at hge c14 c13 c10
         generalize freedO Lz Fz ((q + 1 : Nat) : Int) = fb at c14 hfr
         have n1 : (fb != fb) = false := bne_self_eq_false fb
         have HGE := Aside0.mk hge; have HFR := Aside0.mk hfr
         clear hge hfr
         go_wp2_with fail
         refine HGE.out.mono ?_
         rintro e w9 ⟨rfl, hb9⟩
         have HB9 := Aside0.mk (below_step HB.out hb9); have H9 := Aside0.mk (H.out.below hb9); have HR9 := Aside0.mk (Kd.R_below HR.out hb9)
         clear hb9 HB H HR HGE
         go_wp2_with fail
         refine (store_Frame.calls ((q + 1 : Nat) : Int) H9.out).mono ?_
         rintro e w10 ⟨rfl, hb10⟩
         have HB10 := Aside0.mk (below_step HB9.out hb10); have H10 := Aside0.mk (H9.out.below hb10); have HR10 := Aside0.mk (Kd.R_below HR9.out hb10)
         clear hb10 HB9 H9 HR9
         have hha := has12_calls Ale cle lf (frameS Lz ((q + 1 : Nat) : Int)) w10 (Kd.R_reads' HR10.out).2.2 HCL.out
         rw [HFR.out] at hha
         have HHA := Aside0.mk hha
         clear hha HFR
         go_wp2_with fail
         refine HHA.out.mono ?_
         rintro e w11 ⟨rfl, hb11⟩
         have HB11 := Aside0.mk (below_step HB10.out hb11); have H11 := Aside0.mk (H10.out.below hb11); have HR11 := Aside0.mk (Kd.R_below HR10.out hb11)
         clear hb11 HB10 H10 HR10 HHA
         go_wp2
         go_roundw
         case rel => exact ⟨q + 1 + 1, by go_num, by omega, by omega, HB11, H11, HR11⟩
         case measure => simp [intOf]; omega
        ·have hlei : decide ((p : Int) ≤ (Lz.length : Int)) = false := decide_eq_false (by omega)
         go_wp2_with fail
         refine (store_Open.calls H.out (by have := HL6.out.2.1; omega)).mono ?_
         rintro e w9 ⟨v9, rfl, hr9, hb9⟩
         obtain ⟨Ao, co, eo, hco, hCo⟩ := Kd.R_reads hr9
         subst eo
         have HB9 := Aside0.mk (below_step HB.out hb9); have H9 := Aside0.mk (H.out.below hb9); have HR9 := Aside0.mk (Kd.R_below HR.out hb9); have HO9 := Aside0.mk hCo
         have HOM : Aside0 (∀ o ∈ openTo Fz Fz.length, lf.contains o = false) := ⟨fun o ho => HJ6.out.open ho⟩
         have hom := Kd.C_max hCo
         clear hb9 hr9 hCo HB H HR hco
         generalize openTo Fz Fz.length = ol at HO9 HOM hom ⊢
         go_wp2_with fail
         go_loopw [14] (fun v14 wr => ∃ p : Nat, v14 = .int .i64 p ∧ p ≤ ol.length ∧ Aside0 (Below w.heap.size w wr) ∧ Aside0 (SP wr base g l0 Lz Fz Tz) ∧ Aside0 ((Kd.int .i64).R 3 wr w.heap.size Uz (.slice Ale lf.length cle) lf) ∧ Aside0 ((Kd.int .i64).C wr Ao ol.length ol)) (fun v14 _ => ol.length - (intOf v14).toNat)
         case atStart => exact ⟨0, rfl, Nat.zero_le _, HB9, H9, HR9, HO9⟩
         case round =>
          clear HB9 H9 HR9 HO9
          obtain ⟨p, rfl, hp, HB, H, HR, HO⟩ := hrel
          by_cases hlt : p < ol.length
          ·obtain ⟨ad, e1, hx⟩ := Kd.at_int HO.out (p : Int) (by omega) (by omega)
           subst e1
           simp only [Int.toNat_natCast] at hx
           obtain ⟨z, hz⟩ : ∃ z, z = rd ol (p : Int) := ⟨_, rfl⟩
           have hzm : z ∈ ol := by
            rw [hz]; unfold rd
            rw [Int.toNat_natCast, getD_at _ _ hlt]
            exact List.getElem_mem _
           rw [← hz] at hx
           have hha := has12_calls Ale cle lf z wr (Kd.R_reads' HR.out).2.2 HCL.out
           rw [HOM.out z hzm] at hha
           have HHA := Aside0.mk hha
           have hpl : (p : Int) < (ol.length : Int) := by omega
           clear hha hz hzm
           go_wp2_with fail
           refine HHA.out.mono ?_
           rintro e w10 ⟨rfl, hb10⟩
           have HB10 := Aside0.mk (below_step HB.out hb10); have H10 := Aside0.mk (H.out.below hb10); have HR10 := Aside0.mk (Kd.R_below HR.out hb10); have HO10 := Aside0.mk (Kd.C_below HO.out hb10)
           clear hb10 HB H HR HHA HO hx
           go_wp2
           go_roundw
           case rel => exact ⟨p + 1, by go_num, by omega, HB10, H10, HR10, HO10⟩
           case measure => simp [intOf]; omega
          ·clear HO HOM
           go_wp2
           go_roundw
           case rel => exact ⟨i + 1, _, lf, Lz, Fz, Tz, Uz, rfl, by go_num, by omega, HL6, HB, H, HR, HAP6, HJ6⟩
           case measure => simp [intOf]; omega
     | true =>
      as_aux_lemma =>
       have hle : leaveE F x.f1 = 0 := if_pos ho
       have hlc := store_Leave.calls x.f1 H2.out
       rw [hle] at hlc
       have HLC := Aside0.mk hlc
       clear hlc hle
       obtain ⟨y0, y1, y2, y3, y4, y5, _⟩ := bk6 HXB.out
       go_wp2_with fail
       refine HLC.out.mono ?_
       rintro e w5 ⟨rfl, hp6, hk6, hb6⟩
       have HB5 := Aside0.mk (HB2.out.trans (hb6.mono HW.out)); have H50 := Aside0.mk hp6; have HR50 := Aside0.mk (R_beside HR2.out hk6 HAP2.out); have HAP50 := Aside0.mk (apart_l (w := wa) HAP2.out)
       have HX5 := Aside0.mk (blk_kept HXB.out hk6 HNT.out)
       have HJ6 : Aside0 (Jv L (leaveF F x.f1) (lf ++ [x.f1])) := ⟨HJ.out.leave ho⟩
       have HL6 : Aside0 (L.length ≤ i + 1 ∧ (leaveF F x.f1).length ≤ i + 1 ∧ (lf ++ [x.f1]).length ≤ i + 1) := ⟨by have := HL.out.1; omega, by rw [leaveF_len]; have := HL.out.2.1; omega, by rw [List.length_append]; have := HL.out.2.2; simp only [List.length_singleton]; omega⟩
       have hll : lf.length ≤ 1000 := by have := HL.out.2.2; omega
       clear hp6 hk6 hb6 y0 y1 y2 y3 y4 y5 HB2 H2 HR2 HAP2 HXB HJ HL HLC ho
       obtain ⟨Ty, hTy⟩ : ∃ Ty, Ty = New wa T := ⟨_, rfl⟩
       obtain ⟨Uy, hUy⟩ : ∃ Uy, Uy = (fun k => U k ∧ k < wa.heap.size) := ⟨_, rfl⟩
       rw [← hTy] at H50 HAP50
       rw [← hUy] at HR50
       have HAP5 : Aside0 (∀ k, Ty k → ¬ Uy k) := ⟨by rw [hUy]; exact HAP50.out⟩
       clear hTy hUy HAP50
       obtain ⟨y0, y1, y2, y3, y4, y5, _⟩ := bk6 HX5.out
       have hbw : w.heap.size ≤ w5.heap.size := HB5.out.size
       go_wp2_with (at_builtin; refine Kd.R_append (Kd.int .i64) (w0 := w) w.heap.size rfl (.tmp 60) (.tmp 63) 45 3 (.int .i64 0) 8 rfl Try.underlying45 infoIn rfl (by decide) (by decide) _ lf x.f1 [.int .i64 x.f1] (New w5 Uy) (fun _ => False) rfl rfl ?aP (fun _ hk => hk.elim) (fun k hk => .inr (by first | exact hk | omega)) (Kd.R_mono HR50.out (fun k hk => .inl hk)) HB5.out hbw ?aL ?_)
       case aP => exact rfl
       case aL => omega
       intro v6 w6 hq6 hb6 hg6 hat6
       have hk6 : Kept w5 w6 Uy := Kept.of_grown hg6 (Kept.refl w5 Uy) (fun k hk => .inl (HR50.out.1 k hk))
       have HB6 := Aside0.mk hb6
       have H60 := Aside0.mk (H50.out.beside hk6 (fun k hu ht => HAP5.out k ht hu))
       have HR60 := Aside0.mk hq6
       have HAP60 := Aside0.mk (apart_r (w := w5) HAP5.out)
       obtain ⟨Tz, hTz⟩ : ∃ Tz, Tz = (fun k => Ty k ∧ k < w5.heap.size) := ⟨_, rfl⟩
       obtain ⟨Uz, hUz⟩ : ∃ Uz, Uz = New w5 Uy := ⟨_, rfl⟩
       rw [← hTz] at H60
       rw [← hUz] at HR60 HAP60
       have HAP6 : Aside0 (∀ k, Tz k → ¬ Uz k) := ⟨by rw [hTz]; exact HAP60.out⟩
       have H6 := H60; have HR6 := HR60
       clear hTz hUz HAP60 H60 HR60 hq6 hb6 hg6 hat6 hk6 H50 HR50 HAP5 HB5 y0 y1 y2 y3 y4 y5 HX5 hll hbw
       obtain ⟨Lz, hLz⟩ : ∃ Lz, Lz = L := ⟨_, rfl⟩
       obtain ⟨Fz, hFz⟩ : ∃ Fz, Fz = leaveF F x.f1 := ⟨_, rfl⟩
       obtain ⟨lz, hlz⟩ : ∃ lz, lz = lf ++ [x.f1] := ⟨_, rfl⟩
       rw [← hLz, ← hFz] at H6 HJ6 HL6
       rw [← hlz] at HR6 HJ6 HL6
       clear hLz hFz hlz
       obtain ⟨Al, cl, el, hcl, hcl2⟩ := Kd.R_reads HR6.out
       have HCL := Aside0.mk hcl
       subst el
       clear hcl hcl2
       go_wp2_with fail
       refine (store_Made.calls true H6.out).mono ?_
       rintro e w7 ⟨rfl, hb7⟩
       have HB7 := Aside0.mk (below_step HB6.out hb7); have H7 := Aside0.mk (H6.out.below hb7); have HR7 := Aside0.mk (Kd.R_below HR6.out hb7)
       clear hb7 HB6 H6 HR6
       go_wp2_with fail
       refine (store_Made.calls false H7.out).mono ?_
       rintro e w8 ⟨rfl, hb8⟩
       have HB8 := Aside0.mk (below_step HB7.out hb8); have H8 := Aside0.mk (H7.out.below hb8); have HR8 := Aside0.mk (Kd.R_below HR7.out hb8)
       clear hb8 HB7 H7 HR7
       have hma := made_all Lz (by have := HL6.out.1; omega)
       generalize madeS Lz true = m1 at hma ⊢
       generalize madeS Lz false = m2 at hma ⊢
       have hlm : Lz.length ≤ 1000 := by have := HL6.out.1; omega
       go_wp2_with fail
       go_loopw [10, 11, 12] (fun v10 _ _ wr => ∃ p : Nat, v10 = .int .i64 p ∧ 1 ≤ p ∧ p ≤ Lz.length + 1 ∧ Aside0 (Below w.heap.size w wr) ∧ Aside0 (SP wr base g l0 Lz Fz Tz) ∧ Aside0 ((Kd.int .i64).R 3 wr w.heap.size Uz (.slice Al lz.length cl) lz)) (fun v10 _ _ _ => Lz.length + 1 - (intOf v10).toNat)
       case atStart => exact ⟨1, rfl, Nat.le_refl _, by omega, HB8, H8, HR8⟩
       case round =>
        clear HB8 H8 HR8 hma
        obtain ⟨p, rfl, hp1, hp2, HB, H, HR⟩ := hrel
        by_cases hle : p ≤ Lz.length
        ·obtain ⟨q, rfl⟩ : ∃ q, p = q + 1 := ⟨p - 1, by omega⟩
         have hlei : ((q + 1 : Nat) : Int) ≤ (Lz.length : Int) := by omega
         obtain ⟨c14, c13, c10⟩ := chkS_made Lz Fz (show q < Lz.length by omega)
         have hfr := HJ6.out.frees (show q < Lz.length by omega)
         rw [show ((q : Int) + 1) = ((q + 1 : Nat) : Int) by omega] at c14 c13 c10 hfr
         have hge := store_Get.calls ((q + 1 : Nat) : Int) 0 H.out
         generalize getS Lz Fz ((q + 1 : Nat) : Int) 0 = gv at hge
         generalize chkS Lz Fz ((q + 1 : Nat) : Int) 0 = ge at hge c14 c13 c10
         generalize freedO Lz Fz ((q + 1 : Nat) : Int) = fb at c14 hfr
         have n1 : (fb != fb) = false := bne_self_eq_false fb
         have HGE := Aside0.mk hge; have HFR := Aside0.mk hfr
         clear hge hfr
         go_wp2_with fail
         refine HGE.out.mono ?_
         rintro e w9 ⟨rfl, hb9⟩
         have HB9 := Aside0.mk (below_step HB.out hb9); have H9 := Aside0.mk (H.out.below hb9); have HR9 := Aside0.mk (Kd.R_below HR.out hb9)
         clear hb9 HB H HR HGE
         go_wp2_with fail
         refine (store_Frame.calls ((q + 1 : Nat) : Int) H9.out).mono ?_
         rintro e w10 ⟨rfl, hb10⟩
         have HB10 := Aside0.mk (below_step HB9.out hb10); have H10 := Aside0.mk (H9.out.below hb10); have HR10 := Aside0.mk (Kd.R_below HR9.out hb10)
         clear hb10 HB9 H9 HR9
         have hha := has12_calls Al cl lz (frameS Lz ((q + 1 : Nat) : Int)) w10 (Kd.R_reads' HR10.out).2.2 HCL.out
         rw [HFR.out] at hha
         have HHA := Aside0.mk hha
         clear hha HFR
         go_wp2_with fail
         refine HHA.out.mono ?_
         rintro e w11 ⟨rfl, hb11⟩
         have HB11 := Aside0.mk (below_step HB10.out hb11); have H11 := Aside0.mk (H10.out.below hb11); have HR11 := Aside0.mk (Kd.R_below HR10.out hb11)
         clear hb11 HB10 H10 HR10 HHA
         go_wp2
         go_roundw
         case rel => exact ⟨q + 1 + 1, by go_num, by omega, by omega, HB11, H11, HR11⟩
         case measure => simp [intOf]; omega
        ·have hlei : decide ((p : Int) ≤ (Lz.length : Int)) = false := decide_eq_false (by omega)
         go_wp2_with fail
         refine (store_Open.calls H.out (by have := HL6.out.2.1; omega)).mono ?_
         rintro e w9 ⟨v9, rfl, hr9, hb9⟩
         obtain ⟨Ao, co, eo, hco, hCo⟩ := Kd.R_reads hr9
         subst eo
         have HB9 := Aside0.mk (below_step HB.out hb9); have H9 := Aside0.mk (H.out.below hb9); have HR9 := Aside0.mk (Kd.R_below HR.out hb9); have HO9 := Aside0.mk hCo
         have HOM : Aside0 (∀ o ∈ openTo Fz Fz.length, lz.contains o = false) := ⟨fun o ho => HJ6.out.open ho⟩
         have hom := Kd.C_max hCo
         clear hb9 hr9 hCo HB H HR hco
         generalize openTo Fz Fz.length = ol at HO9 HOM hom ⊢
         go_wp2_with fail
         go_loopw [14] (fun v14 wr => ∃ p : Nat, v14 = .int .i64 p ∧ p ≤ ol.length ∧ Aside0 (Below w.heap.size w wr) ∧ Aside0 (SP wr base g l0 Lz Fz Tz) ∧ Aside0 ((Kd.int .i64).R 3 wr w.heap.size Uz (.slice Al lz.length cl) lz) ∧ Aside0 ((Kd.int .i64).C wr Ao ol.length ol)) (fun v14 _ => ol.length - (intOf v14).toNat)
         case atStart => exact ⟨0, rfl, Nat.zero_le _, HB9, H9, HR9, HO9⟩
         case round =>
          clear HB9 H9 HR9 HO9
          obtain ⟨p, rfl, hp, HB, H, HR, HO⟩ := hrel
          by_cases hlt : p < ol.length
          ·obtain ⟨ad, e1, hx⟩ := Kd.at_int HO.out (p : Int) (by omega) (by omega)
           subst e1
           simp only [Int.toNat_natCast] at hx
           obtain ⟨z, hz⟩ : ∃ z, z = rd ol (p : Int) := ⟨_, rfl⟩
           have hzm : z ∈ ol := by
            rw [hz]; unfold rd
            rw [Int.toNat_natCast, getD_at _ _ hlt]
            exact List.getElem_mem _
           rw [← hz] at hx
           have hha := has12_calls Al cl lz z wr (Kd.R_reads' HR.out).2.2 HCL.out
           rw [HOM.out z hzm] at hha
           have HHA := Aside0.mk hha
           have hpl : (p : Int) < (ol.length : Int) := by omega
           clear hha hz hzm
           go_wp2_with fail
           refine HHA.out.mono ?_
           rintro e w10 ⟨rfl, hb10⟩
           have HB10 := Aside0.mk (below_step HB.out hb10); have H10 := Aside0.mk (H.out.below hb10); have HR10 := Aside0.mk (Kd.R_below HR.out hb10); have HO10 := Aside0.mk (Kd.C_below HO.out hb10)
           clear hb10 HB H HR HHA HO hx
           go_wp2
           go_roundw
           case rel => exact ⟨p + 1, by go_num, by omega, HB10, H10, HR10, HO10⟩
           case measure => simp [intOf]; omega
          ·clear HO HOM
           go_wp2
           go_roundw
           case rel => exact ⟨i + 1, _, lz, Lz, Fz, Tz, Uz, rfl, by go_num, by omega, HL6, HB, H, HR, HAP6, HJ6⟩
           case measure => simp [intOf]; omega
    ·have d2 : (kd == 2) = false := beq_eq_false_iff_ne.mpr h2
     by_cases h3 : kd = 3
     ·as_aux_lemma =>
      subst h3
      obtain ⟨y0, y1, y2, y3, y4, y5, _⟩ := bk6 HXB.out
      go_wp2_with fail
      refine (store_Make.calls x.f2 x.f1 H2.out (by have := HL.out.1; omega) HS2.out).mono ?_
      rintro e w6 ⟨rfl, hp6, hk6, hb6⟩
      have HB6 := Aside0.mk (HB2.out.trans (hb6.mono HW.out)); have H60 := Aside0.mk hp6; have HR60 := Aside0.mk (R_beside HR2.out hk6 HAP2.out); have HAP60 := Aside0.mk (apart_l (w := wa) HAP2.out)
      have HJ6 : Aside0 (Jv (mkSL l0 L F x.f2 x.f1) (F) lf) := ⟨HJ.out.make x.f2 x.f1⟩
      have HL6 : Aside0 ((mkSL l0 L F x.f2 x.f1).length ≤ i + 1 ∧ (F).length ≤ i + 1 ∧ lf.length ≤ i + 1) := ⟨by have := mkSL_len (S := l0) L F x.f2 x.f1; have := HL.out.1; omega, by have := HL.out.2.1; omega, by have := HL.out.2.2; omega⟩
      clear hp6 hk6 hb6 y0 y1 y2 y3 y4 y5 HB2 H2 HR2 HAP2 HXB HJ HL
      obtain ⟨Tz, hTz⟩ : ∃ Tz, Tz = New wa T := ⟨_, rfl⟩
      obtain ⟨Uz, hUz⟩ : ∃ Uz, Uz = (fun k => U k ∧ k < wa.heap.size) := ⟨_, rfl⟩
      rw [← hTz] at H60 HAP60
      rw [← hUz] at HR60
      have HAP6 : Aside0 (∀ k, Tz k → ¬ Uz k) := ⟨by rw [hUz]; exact HAP60.out⟩
      have H6 := H60; have HR6 := HR60
      clear hTz hUz HAP60 H60 HR60
      obtain ⟨Lz, hLz⟩ : ∃ Lz, Lz = mkSL l0 L F x.f2 x.f1 := ⟨_, rfl⟩
      obtain ⟨Fz, hFz⟩ : ∃ Fz, Fz = F := ⟨_, rfl⟩
      rw [← hLz, ← hFz] at H6 HJ6 HL6
      clear hLz hFz
      have HCL := Aside0.mk (Kd.R_reads' HR6.out).2.1
      go_wp2_with fail
      refine (store_Made.calls true H6.out).mono ?_
      rintro e w7 ⟨rfl, hb7⟩
      have HB7 := Aside0.mk (below_step HB6.out hb7); have H7 := Aside0.mk (H6.out.below hb7); have HR7 := Aside0.mk (Kd.R_below HR6.out hb7)
      clear hb7 HB6 H6 HR6
      go_wp2_with fail
      refine (store_Made.calls false H7.out).mono ?_
      rintro e w8 ⟨rfl, hb8⟩
      have HB8 := Aside0.mk (below_step HB7.out hb8); have H8 := Aside0.mk (H7.out.below hb8); have HR8 := Aside0.mk (Kd.R_below HR7.out hb8)
      clear hb8 HB7 H7 HR7
      have hma := made_all Lz (by have := HL6.out.1; omega)
      generalize madeS Lz true = m1 at hma ⊢
      generalize madeS Lz false = m2 at hma ⊢
      have hlm : Lz.length ≤ 1000 := by have := HL6.out.1; omega
      go_wp2_with fail
      go_loopw [10, 11, 12] (fun v10 _ _ wr => ∃ p : Nat, v10 = .int .i64 p ∧ 1 ≤ p ∧ p ≤ Lz.length + 1 ∧ Aside0 (Below w.heap.size w wr) ∧ Aside0 (SP wr base g l0 Lz Fz Tz) ∧ Aside0 ((Kd.int .i64).R 3 wr w.heap.size Uz (.slice Ale lf.length cle) lf)) (fun v10 _ _ _ => Lz.length + 1 - (intOf v10).toNat)
      case atStart => exact ⟨1, rfl, Nat.le_refl _, by omega, HB8, H8, HR8⟩
      case round =>
       clear HB8 H8 HR8 hma
       obtain ⟨p, rfl, hp1, hp2, HB, H, HR⟩ := hrel
       by_cases hle : p ≤ Lz.length
       ·obtain ⟨q, rfl⟩ : ∃ q, p = q + 1 := ⟨p - 1, by omega⟩
        have hlei : ((q + 1 : Nat) : Int) ≤ (Lz.length : Int) := by omega
        obtain ⟨c14, c13, c10⟩ := chkS_made Lz Fz (show q < Lz.length by omega)
        have hfr := HJ6.out.frees (show q < Lz.length by omega)
        rw [show ((q : Int) + 1) = ((q + 1 : Nat) : Int) by omega] at c14 c13 c10 hfr
        have hge := store_Get.calls ((q + 1 : Nat) : Int) 0 H.out
        generalize getS Lz Fz ((q + 1 : Nat) : Int) 0 = gv at hge
        generalize chkS Lz Fz ((q + 1 : Nat) : Int) 0 = ge at hge c14 c13 c10
        generalize freedO Lz Fz ((q + 1 : Nat) : Int) = fb at c14 hfr
        have n1 : (fb != fb) = false := bne_self_eq_false fb
        have HGE := Aside0.mk hge; have HFR := Aside0.mk hfr
        clear hge hfr
        go_wp2_with fail
        refine HGE.out.mono ?_
        rintro e w9 ⟨rfl, hb9⟩
        have HB9 := Aside0.mk (below_step HB.out hb9); have H9 := Aside0.mk (H.out.below hb9); have HR9 := Aside0.mk (Kd.R_below HR.out hb9)
        clear hb9 HB H HR HGE
        go_wp2_with fail
        refine (store_Frame.calls ((q + 1 : Nat) : Int) H9.out).mono ?_
        rintro e w10 ⟨rfl, hb10⟩
        have HB10 := Aside0.mk (below_step HB9.out hb10); have H10 := Aside0.mk (H9.out.below hb10); have HR10 := Aside0.mk (Kd.R_below HR9.out hb10)
        clear hb10 HB9 H9 HR9
        have hha := has12_calls Ale cle lf (frameS Lz ((q + 1 : Nat) : Int)) w10 (Kd.R_reads' HR10.out).2.2 HCL.out
        rw [HFR.out] at hha
        have HHA := Aside0.mk hha
        clear hha HFR
        go_wp2_with fail
        refine HHA.out.mono ?_
        rintro e w11 ⟨rfl, hb11⟩
        have HB11 := Aside0.mk (below_step HB10.out hb11); have H11 := Aside0.mk (H10.out.below hb11); have HR11 := Aside0.mk (Kd.R_below HR10.out hb11)
        clear hb11 HB10 H10 HR10 HHA
        go_wp2
        go_roundw
        case rel => exact ⟨q + 1 + 1, by go_num, by omega, by omega, HB11, H11, HR11⟩
        case measure => simp [intOf]; omega
       ·have hlei : decide ((p : Int) ≤ (Lz.length : Int)) = false := decide_eq_false (by omega)
        go_wp2_with fail
        refine (store_Open.calls H.out (by have := HL6.out.2.1; omega)).mono ?_
        rintro e w9 ⟨v9, rfl, hr9, hb9⟩
        obtain ⟨Ao, co, eo, hco, hCo⟩ := Kd.R_reads hr9
        subst eo
        have HB9 := Aside0.mk (below_step HB.out hb9); have H9 := Aside0.mk (H.out.below hb9); have HR9 := Aside0.mk (Kd.R_below HR.out hb9); have HO9 := Aside0.mk hCo
        have HOM : Aside0 (∀ o ∈ openTo Fz Fz.length, lf.contains o = false) := ⟨fun o ho => HJ6.out.open ho⟩
        have hom := Kd.C_max hCo
        clear hb9 hr9 hCo HB H HR hco
        generalize openTo Fz Fz.length = ol at HO9 HOM hom ⊢
        go_wp2_with fail
        go_loopw [14] (fun v14 wr => ∃ p : Nat, v14 = .int .i64 p ∧ p ≤ ol.length ∧ Aside0 (Below w.heap.size w wr) ∧ Aside0 (SP wr base g l0 Lz Fz Tz) ∧ Aside0 ((Kd.int .i64).R 3 wr w.heap.size Uz (.slice Ale lf.length cle) lf) ∧ Aside0 ((Kd.int .i64).C wr Ao ol.length ol)) (fun v14 _ => ol.length - (intOf v14).toNat)
        case atStart => exact ⟨0, rfl, Nat.zero_le _, HB9, H9, HR9, HO9⟩
        case round =>
         clear HB9 H9 HR9 HO9
         obtain ⟨p, rfl, hp, HB, H, HR, HO⟩ := hrel
         by_cases hlt : p < ol.length
         ·obtain ⟨ad, e1, hx⟩ := Kd.at_int HO.out (p : Int) (by omega) (by omega)
          subst e1
          simp only [Int.toNat_natCast] at hx
          obtain ⟨z, hz⟩ : ∃ z, z = rd ol (p : Int) := ⟨_, rfl⟩
          have hzm : z ∈ ol := by
           rw [hz]; unfold rd
           rw [Int.toNat_natCast, getD_at _ _ hlt]
           exact List.getElem_mem _
          rw [← hz] at hx
          have hha := has12_calls Ale cle lf z wr (Kd.R_reads' HR.out).2.2 HCL.out
          rw [HOM.out z hzm] at hha
          have HHA := Aside0.mk hha
          have hpl : (p : Int) < (ol.length : Int) := by omega
          clear hha hz hzm
          go_wp2_with fail
          refine HHA.out.mono ?_
          rintro e w10 ⟨rfl, hb10⟩
          have HB10 := Aside0.mk (below_step HB.out hb10); have H10 := Aside0.mk (H.out.below hb10); have HR10 := Aside0.mk (Kd.R_below HR.out hb10); have HO10 := Aside0.mk (Kd.C_below HO.out hb10)
          clear hb10 HB H HR HHA HO hx
          go_wp2
          go_roundw
          case rel => exact ⟨p + 1, by go_num, by omega, HB10, H10, HR10, HO10⟩
          case measure => simp [intOf]; omega
         ·clear HO HOM
          go_wp2
          go_roundw
          case rel => exact ⟨i + 1, _, lf, Lz, Fz, Tz, Uz, rfl, by go_num, by omega, HL6, HB, H, HR, HAP6, HJ6⟩
          case measure => simp [intOf]; omega
     ·have d3 : (kd == 3) = false := beq_eq_false_iff_ne.mpr h3
      by_cases h4 : kd = 4
      ·as_aux_lemma =>
       subst h4
       obtain ⟨y0, y1, y2, y3, y4, y5, _⟩ := bk6 HXB.out
       go_wp2_with fail
       refine (store_Make.calls x.f2 x.f1 H2.out (by have := HL.out.1; omega) HS2.out).mono ?_
       rintro e w6 ⟨rfl, hp6, hk6, hb6⟩
       have HB6 := Aside0.mk (HB2.out.trans (hb6.mono HW.out)); have H60 := Aside0.mk hp6; have HR60 := Aside0.mk (R_beside HR2.out hk6 HAP2.out); have HAP60 := Aside0.mk (apart_l (w := wa) HAP2.out)
       have HJ6 : Aside0 (Jv (mkSL l0 L F x.f2 x.f1) (F) lf) := ⟨HJ.out.make x.f2 x.f1⟩
       have HL6 : Aside0 ((mkSL l0 L F x.f2 x.f1).length ≤ i + 1 ∧ (F).length ≤ i + 1 ∧ lf.length ≤ i + 1) := ⟨by have := mkSL_len (S := l0) L F x.f2 x.f1; have := HL.out.1; omega, by have := HL.out.2.1; omega, by have := HL.out.2.2; omega⟩
       clear hp6 hk6 hb6 y0 y1 y2 y3 y4 y5 HB2 H2 HR2 HAP2 HXB HJ HL
       obtain ⟨Tz, hTz⟩ : ∃ Tz, Tz = New wa T := ⟨_, rfl⟩
       obtain ⟨Uz, hUz⟩ : ∃ Uz, Uz = (fun k => U k ∧ k < wa.heap.size) := ⟨_, rfl⟩
       rw [← hTz] at H60 HAP60
       rw [← hUz] at HR60
       have HAP6 : Aside0 (∀ k, Tz k → ¬ Uz k) := ⟨by rw [hUz]; exact HAP60.out⟩
       have H6 := H60; have HR6 := HR60
       clear hTz hUz HAP60 H60 HR60
       obtain ⟨Lz, hLz⟩ : ∃ Lz, Lz = mkSL l0 L F x.f2 x.f1 := ⟨_, rfl⟩
       obtain ⟨Fz, hFz⟩ : ∃ Fz, Fz = F := ⟨_, rfl⟩
       rw [← hLz, ← hFz] at H6 HJ6 HL6
       clear hLz hFz
       have HCL := Aside0.mk (Kd.R_reads' HR6.out).2.1
       go_wp2_with fail
       refine (store_Made.calls true H6.out).mono ?_
       rintro e w7 ⟨rfl, hb7⟩
       have HB7 := Aside0.mk (below_step HB6.out hb7); have H7 := Aside0.mk (H6.out.below hb7); have HR7 := Aside0.mk (Kd.R_below HR6.out hb7)
       clear hb7 HB6 H6 HR6
       go_wp2_with fail
       refine (store_Made.calls false H7.out).mono ?_
       rintro e w8 ⟨rfl, hb8⟩
       have HB8 := Aside0.mk (below_step HB7.out hb8); have H8 := Aside0.mk (H7.out.below hb8); have HR8 := Aside0.mk (Kd.R_below HR7.out hb8)
       clear hb8 HB7 H7 HR7
       have hma := made_all Lz (by have := HL6.out.1; omega)
       generalize madeS Lz true = m1 at hma ⊢
       generalize madeS Lz false = m2 at hma ⊢
       have hlm : Lz.length ≤ 1000 := by have := HL6.out.1; omega
       go_wp2_with fail
       go_loopw [10, 11, 12] (fun v10 _ _ wr => ∃ p : Nat, v10 = .int .i64 p ∧ 1 ≤ p ∧ p ≤ Lz.length + 1 ∧ Aside0 (Below w.heap.size w wr) ∧ Aside0 (SP wr base g l0 Lz Fz Tz) ∧ Aside0 ((Kd.int .i64).R 3 wr w.heap.size Uz (.slice Ale lf.length cle) lf)) (fun v10 _ _ _ => Lz.length + 1 - (intOf v10).toNat)
       case atStart => exact ⟨1, rfl, Nat.le_refl _, by omega, HB8, H8, HR8⟩
       case round =>
        clear HB8 H8 HR8 hma
        obtain ⟨p, rfl, hp1, hp2, HB, H, HR⟩ := hrel
        by_cases hle : p ≤ Lz.length
        ·obtain ⟨q, rfl⟩ : ∃ q, p = q + 1 := ⟨p - 1, by omega⟩
         have hlei : ((q + 1 : Nat) : Int) ≤ (Lz.length : Int) := by omega
         obtain ⟨c14, c13, c10⟩ := chkS_made Lz Fz (show q < Lz.length by omega)
         have hfr := HJ6.out.frees (show q < Lz.length by omega)
         rw [show ((q : Int) + 1) = ((q + 1 : Nat) : Int) by omega] at c14 c13 c10 hfr
         have hge := store_Get.calls ((q + 1 : Nat) : Int) 0 H.out
         generalize getS Lz Fz ((q + 1 : Nat) : Int) 0 = gv at hge
         generalize chkS Lz Fz ((q + 1 : Nat) : Int) 0 = ge at hge c14 c13 c10
         generalize freedO Lz Fz ((q + 1 : Nat) : Int) = fb at c14 hfr
         have n1 : (fb != fb) = false := bne_self_eq_false fb
         have HGE := Aside0.mk hge; have HFR := Aside0.mk hfr
         clear hge hfr
         go_wp2_with fail
         refine HGE.out.mono ?_
         rintro e w9 ⟨rfl, hb9⟩
         have HB9 := Aside0.mk (below_step HB.out hb9); have H9 := Aside0.mk (H.out.below hb9); have HR9 := Aside0.mk (Kd.R_below HR.out hb9)
         clear hb9 HB H HR HGE
         go_wp2_with fail
         refine (store_Frame.calls ((q + 1 : Nat) : Int) H9.out).mono ?_
         rintro e w10 ⟨rfl, hb10⟩
         have HB10 := Aside0.mk (below_step HB9.out hb10); have H10 := Aside0.mk (H9.out.below hb10); have HR10 := Aside0.mk (Kd.R_below HR9.out hb10)
         clear hb10 HB9 H9 HR9
         have hha := has12_calls Ale cle lf (frameS Lz ((q + 1 : Nat) : Int)) w10 (Kd.R_reads' HR10.out).2.2 HCL.out
         rw [HFR.out] at hha
         have HHA := Aside0.mk hha
         clear hha HFR
         go_wp2_with fail
         refine HHA.out.mono ?_
         rintro e w11 ⟨rfl, hb11⟩
         have HB11 := Aside0.mk (below_step HB10.out hb11); have H11 := Aside0.mk (H10.out.below hb11); have HR11 := Aside0.mk (Kd.R_below HR10.out hb11)
         clear hb11 HB10 H10 HR10 HHA
         go_wp2
         go_roundw
         case rel => exact ⟨q + 1 + 1, by go_num, by omega, by omega, HB11, H11, HR11⟩
         case measure => simp [intOf]; omega
        ·have hlei : decide ((p : Int) ≤ (Lz.length : Int)) = false := decide_eq_false (by omega)
         go_wp2_with fail
         refine (store_Open.calls H.out (by have := HL6.out.2.1; omega)).mono ?_
         rintro e w9 ⟨v9, rfl, hr9, hb9⟩
         obtain ⟨Ao, co, eo, hco, hCo⟩ := Kd.R_reads hr9
         subst eo
         have HB9 := Aside0.mk (below_step HB.out hb9); have H9 := Aside0.mk (H.out.below hb9); have HR9 := Aside0.mk (Kd.R_below HR.out hb9); have HO9 := Aside0.mk hCo
         have HOM : Aside0 (∀ o ∈ openTo Fz Fz.length, lf.contains o = false) := ⟨fun o ho => HJ6.out.open ho⟩
         have hom := Kd.C_max hCo
         clear hb9 hr9 hCo HB H HR hco
         generalize openTo Fz Fz.length = ol at HO9 HOM hom ⊢
         go_wp2_with fail
         go_loopw [14] (fun v14 wr => ∃ p : Nat, v14 = .int .i64 p ∧ p ≤ ol.length ∧ Aside0 (Below w.heap.size w wr) ∧ Aside0 (SP wr base g l0 Lz Fz Tz) ∧ Aside0 ((Kd.int .i64).R 3 wr w.heap.size Uz (.slice Ale lf.length cle) lf) ∧ Aside0 ((Kd.int .i64).C wr Ao ol.length ol)) (fun v14 _ => ol.length - (intOf v14).toNat)
         case atStart => exact ⟨0, rfl, Nat.zero_le _, HB9, H9, HR9, HO9⟩
         case round =>
          clear HB9 H9 HR9 HO9
          obtain ⟨p, rfl, hp, HB, H, HR, HO⟩ := hrel
          by_cases hlt : p < ol.length
          ·obtain ⟨ad, e1, hx⟩ := Kd.at_int HO.out (p : Int) (by omega) (by omega)
           subst e1
           simp only [Int.toNat_natCast] at hx
           obtain ⟨z, hz⟩ : ∃ z, z = rd ol (p : Int) := ⟨_, rfl⟩
           have hzm : z ∈ ol := by
            rw [hz]; unfold rd
            rw [Int.toNat_natCast, getD_at _ _ hlt]
            exact List.getElem_mem _
           rw [← hz] at hx
           have hha := has12_calls Ale cle lf z wr (Kd.R_reads' HR.out).2.2 HCL.out
           rw [HOM.out z hzm] at hha
           have HHA := Aside0.mk hha
           have hpl : (p : Int) < (ol.length : Int) := by omega
           clear hha hz hzm
           go_wp2_with fail
           refine HHA.out.mono ?_
           rintro e w10 ⟨rfl, hb10⟩
           have HB10 := Aside0.mk (below_step HB.out hb10); have H10 := Aside0.mk (H.out.below hb10); have HR10 := Aside0.mk (Kd.R_below HR.out hb10); have HO10 := Aside0.mk (Kd.C_below HO.out hb10)
           clear hb10 HB H HR HHA HO hx
           go_wp2
           go_roundw
           case rel => exact ⟨p + 1, by go_num, by omega, HB10, H10, HR10, HO10⟩
           case measure => simp [intOf]; omega
          ·clear HO HOM
           go_wp2
           go_roundw
           case rel => exact ⟨i + 1, _, lf, Lz, Fz, Tz, Uz, rfl, by go_num, by omega, HL6, HB, H, HR, HAP6, HJ6⟩
           case measure => simp [intOf]; omega
      ·have d4 : (kd == 4) = false := beq_eq_false_iff_ne.mpr h4
       clear h1 h2 h3 h4
       as_aux_lemma =>
        obtain ⟨y0, y1, y2, y3, y4, y5, _⟩ := bk6 HXB.out
        go_wp2_with fail
        refine (store_Set.calls x.f3 x.f4 x.f5 H2.out).mono ?_
        rintro e w6 ⟨rfl, hp6, hk6, hb6⟩
        have HB6 := Aside0.mk (HB2.out.trans (hb6.mono HW.out)); have H60 := Aside0.mk hp6; have HR60 := Aside0.mk (R_beside HR2.out hk6 HAP2.out); have HAP60 := Aside0.mk (apart_l (w := wa) HAP2.out)
        have HJ6 : Aside0 (Jv (setS L F x.f3 x.f4 x.f5) (F) lf) := ⟨HJ.out.set x.f3 x.f4 x.f5⟩
        have HL6 : Aside0 ((setS L F x.f3 x.f4 x.f5).length ≤ i + 1 ∧ (F).length ≤ i + 1 ∧ lf.length ≤ i + 1) := ⟨by have := setS_len L F x.f3 x.f4 x.f5; have := HL.out.1; omega, by have := HL.out.2.1; omega, by have := HL.out.2.2; omega⟩
        clear hp6 hk6 hb6 y0 y1 y2 y3 y4 y5 HB2 H2 HR2 HAP2 HXB HJ HL
        obtain ⟨Tz, hTz⟩ : ∃ Tz, Tz = New wa T := ⟨_, rfl⟩
        obtain ⟨Uz, hUz⟩ : ∃ Uz, Uz = (fun k => U k ∧ k < wa.heap.size) := ⟨_, rfl⟩
        rw [← hTz] at H60 HAP60
        rw [← hUz] at HR60
        have HAP6 : Aside0 (∀ k, Tz k → ¬ Uz k) := ⟨by rw [hUz]; exact HAP60.out⟩
        have H6 := H60; have HR6 := HR60
        clear hTz hUz HAP60 H60 HR60
        obtain ⟨Lz, hLz⟩ : ∃ Lz, Lz = setS L F x.f3 x.f4 x.f5 := ⟨_, rfl⟩
        obtain ⟨Fz, hFz⟩ : ∃ Fz, Fz = F := ⟨_, rfl⟩
        rw [← hLz, ← hFz] at H6 HJ6 HL6
        clear hLz hFz
        have HCL := Aside0.mk (Kd.R_reads' HR6.out).2.1
        go_wp2_with fail
        refine (store_Made.calls true H6.out).mono ?_
        rintro e w7 ⟨rfl, hb7⟩
        have HB7 := Aside0.mk (below_step HB6.out hb7); have H7 := Aside0.mk (H6.out.below hb7); have HR7 := Aside0.mk (Kd.R_below HR6.out hb7)
        clear hb7 HB6 H6 HR6
        go_wp2_with fail
        refine (store_Made.calls false H7.out).mono ?_
        rintro e w8 ⟨rfl, hb8⟩
        have HB8 := Aside0.mk (below_step HB7.out hb8); have H8 := Aside0.mk (H7.out.below hb8); have HR8 := Aside0.mk (Kd.R_below HR7.out hb8)
        clear hb8 HB7 H7 HR7
        have hma := made_all Lz (by have := HL6.out.1; omega)
        generalize madeS Lz true = m1 at hma ⊢
        generalize madeS Lz false = m2 at hma ⊢
        have hlm : Lz.length ≤ 1000 := by have := HL6.out.1; omega
        go_wp2_with fail
        go_loopw [10, 11, 12] (fun v10 _ _ wr => ∃ p : Nat, v10 = .int .i64 p ∧ 1 ≤ p ∧ p ≤ Lz.length + 1 ∧ Aside0 (Below w.heap.size w wr) ∧ Aside0 (SP wr base g l0 Lz Fz Tz) ∧ Aside0 ((Kd.int .i64).R 3 wr w.heap.size Uz (.slice Ale lf.length cle) lf)) (fun v10 _ _ _ => Lz.length + 1 - (intOf v10).toNat)
        case atStart => exact ⟨1, rfl, Nat.le_refl _, by omega, HB8, H8, HR8⟩
        case round =>
         clear HB8 H8 HR8 hma
         obtain ⟨p, rfl, hp1, hp2, HB, H, HR⟩ := hrel
         by_cases hle : p ≤ Lz.length
         ·obtain ⟨q, rfl⟩ : ∃ q, p = q + 1 := ⟨p - 1, by omega⟩
          have hlei : ((q + 1 : Nat) : Int) ≤ (Lz.length : Int) := by omega
          obtain ⟨c14, c13, c10⟩ := chkS_made Lz Fz (show q < Lz.length by omega)
          have hfr := HJ6.out.frees (show q < Lz.length by omega)
          rw [show ((q : Int) + 1) = ((q + 1 : Nat) : Int) by omega] at c14 c13 c10 hfr
          have hge := store_Get.calls ((q + 1 : Nat) : Int) 0 H.out
          generalize getS Lz Fz ((q + 1 : Nat) : Int) 0 = gv at hge
          generalize chkS Lz Fz ((q + 1 : Nat) : Int) 0 = ge at hge c14 c13 c10
          generalize freedO Lz Fz ((q + 1 : Nat) : Int) = fb at c14 hfr
          have n1 : (fb != fb) = false := bne_self_eq_false fb
          have HGE := Aside0.mk hge; have HFR := Aside0.mk hfr
          clear hge hfr
          go_wp2_with fail
          refine HGE.out.mono ?_
          rintro e w9 ⟨rfl, hb9⟩
          have HB9 := Aside0.mk (below_step HB.out hb9); have H9 := Aside0.mk (H.out.below hb9); have HR9 := Aside0.mk (Kd.R_below HR.out hb9)
          clear hb9 HB H HR HGE
          go_wp2_with fail
          refine (store_Frame.calls ((q + 1 : Nat) : Int) H9.out).mono ?_
          rintro e w10 ⟨rfl, hb10⟩
          have HB10 := Aside0.mk (below_step HB9.out hb10); have H10 := Aside0.mk (H9.out.below hb10); have HR10 := Aside0.mk (Kd.R_below HR9.out hb10)
          clear hb10 HB9 H9 HR9
          have hha := has12_calls Ale cle lf (frameS Lz ((q + 1 : Nat) : Int)) w10 (Kd.R_reads' HR10.out).2.2 HCL.out
          rw [HFR.out] at hha
          have HHA := Aside0.mk hha
          clear hha HFR
          go_wp2_with fail
          refine HHA.out.mono ?_
          rintro e w11 ⟨rfl, hb11⟩
          have HB11 := Aside0.mk (below_step HB10.out hb11); have H11 := Aside0.mk (H10.out.below hb11); have HR11 := Aside0.mk (Kd.R_below HR10.out hb11)
          clear hb11 HB10 H10 HR10 HHA
          go_wp2
          go_roundw
          case rel => exact ⟨q + 1 + 1, by go_num, by omega, by omega, HB11, H11, HR11⟩
          case measure => simp [intOf]; omega
         ·have hlei : decide ((p : Int) ≤ (Lz.length : Int)) = false := decide_eq_false (by omega)
          go_wp2_with fail
          refine (store_Open.calls H.out (by have := HL6.out.2.1; omega)).mono ?_
          rintro e w9 ⟨v9, rfl, hr9, hb9⟩
          obtain ⟨Ao, co, eo, hco, hCo⟩ := Kd.R_reads hr9
          subst eo
          have HB9 := Aside0.mk (below_step HB.out hb9); have H9 := Aside0.mk (H.out.below hb9); have HR9 := Aside0.mk (Kd.R_below HR.out hb9); have HO9 := Aside0.mk hCo
          have HOM : Aside0 (∀ o ∈ openTo Fz Fz.length, lf.contains o = false) := ⟨fun o ho => HJ6.out.open ho⟩
          have hom := Kd.C_max hCo
          clear hb9 hr9 hCo HB H HR hco
          generalize openTo Fz Fz.length = ol at HO9 HOM hom ⊢
          go_wp2_with fail
          go_loopw [14] (fun v14 wr => ∃ p : Nat, v14 = .int .i64 p ∧ p ≤ ol.length ∧ Aside0 (Below w.heap.size w wr) ∧ Aside0 (SP wr base g l0 Lz Fz Tz) ∧ Aside0 ((Kd.int .i64).R 3 wr w.heap.size Uz (.slice Ale lf.length cle) lf) ∧ Aside0 ((Kd.int .i64).C wr Ao ol.length ol)) (fun v14 _ => ol.length - (intOf v14).toNat)
          case atStart => exact ⟨0, rfl, Nat.zero_le _, HB9, H9, HR9, HO9⟩
          case round =>
           clear HB9 H9 HR9 HO9
           obtain ⟨p, rfl, hp, HB, H, HR, HO⟩ := hrel
           by_cases hlt : p < ol.length
           ·obtain ⟨ad, e1, hx⟩ := Kd.at_int HO.out (p : Int) (by omega) (by omega)
            subst e1
            simp only [Int.toNat_natCast] at hx
            obtain ⟨z, hz⟩ : ∃ z, z = rd ol (p : Int) := ⟨_, rfl⟩
            have hzm : z ∈ ol := by
             rw [hz]; unfold rd
             rw [Int.toNat_natCast, getD_at _ _ hlt]
             exact List.getElem_mem _
            rw [← hz] at hx
            have hha := has12_calls Ale cle lf z wr (Kd.R_reads' HR.out).2.2 HCL.out
            rw [HOM.out z hzm] at hha
            have HHA := Aside0.mk hha
            have hpl : (p : Int) < (ol.length : Int) := by omega
            clear hha hz hzm
            go_wp2_with fail
            refine HHA.out.mono ?_
            rintro e w10 ⟨rfl, hb10⟩
            have HB10 := Aside0.mk (below_step HB.out hb10); have H10 := Aside0.mk (H.out.below hb10); have HR10 := Aside0.mk (Kd.R_below HR.out hb10); have HO10 := Aside0.mk (Kd.C_below HO.out hb10)
            clear hb10 HB H HR HHA HO hx
            go_wp2
            go_roundw
            case rel => exact ⟨p + 1, by go_num, by omega, HB10, H10, HR10, HO10⟩
            case measure => simp [intOf]; omega
           ·clear HO HOM
            go_wp2
            go_roundw
            case rel => exact ⟨i + 1, _, lf, Lz, Fz, Tz, Uz, rfl, by go_num, by omega, HL6, HB, H, HR, HAP6, HJ6⟩
            case measure => simp [intOf]; omega
  ·go_wp2
   go_ret
   exact ⟨rfl, HB.out⟩
set_option maxRecDepth 100000 in
set_option maxHeartbeats 4000000 in
theorem truantlaw12_StoreFrees.calls (k : Nat) (A0 : Option Addr) (c0 : Nat) (l0 : List (S43)) (A1 : Option Addr) (c1 : Nat) (l1 : List (S94)) (r : Bool) (w : World) (hr0 : Kd.C k43 w A0 l0.length l0) (hc0 : l0.length ≤ c0) (hr1 : Kd.C k94 w A1 l1.length l1) (hc1 : l1.length ≤ c1) (h : truantlaw12_StoreFrees.f k l0 l1 = some r) :
  Calls Try.prog 11 #[.slice A0 l0.length c0, .slice A1 l1.length c1] w fun e w' => e = .returned (.bool r) ∧ Below w.heap.size w w' := by
 unfold truantlaw12_StoreFrees.f at h
 obtain ⟨gr, hgr, h⟩ := Option.bind_eq_some_iff.mp h
 have HR0 := Aside0.mk hr0; have HC0 := Aside0.mk hc0
 cases gr with
 | true =>
  rw [if_pos rfl] at h
  obtain rfl := Option.some.inj h
  have HGR := Aside0.mk hgr
  clear h hgr hr0 hc0 hr1
  go_enter Try.func11, Try.ntmps11
  go_wp2_with fail
  refine (truantlaw12_awake.calls true w rfl).mono ?_
  rintro e w1 ⟨rfl, hb1⟩
  have HB1 := Aside0.mk hb1; clear hb1
  go_wp2_with fail
  refine (truantlaw12_great.calls k A0 c0 l0 true w1 (Kd.C_below HR0.out HB1.out) HC0.out HGR.out).mono ?_
  rintro e w2 ⟨rfl, hd2⟩
  have HB2 := Aside0.mk (below_step HB1.out hd2.below); clear hd2 HB1
  go_wp2
  go_ret
  exact ⟨rfl, HB2.out⟩
 | false =>
  rw [if_neg (by decide)] at h
  by_cases hl : (l1.length : Int) > 80
  ·rw [if_pos hl] at h
   obtain rfl := Option.some.inj h
   have HGR := Aside0.mk hgr
   have hdl : decide ((l1.length : Int) > 80) = true := decide_eq_true hl
   clear h hgr hr0 hc0 hr1
   go_enter Try.func11, Try.ntmps11
   go_wp2_with fail
   refine (truantlaw12_awake.calls true w rfl).mono ?_
   rintro e w1 ⟨rfl, hb1⟩
   have HB1 := Aside0.mk hb1; clear hb1
   go_wp2_with fail
   refine (truantlaw12_great.calls k A0 c0 l0 false w1 (Kd.C_below HR0.out HB1.out) HC0.out HGR.out).mono ?_
   rintro e w2 ⟨rfl, hd2⟩
   have HB2 := Aside0.mk (below_step HB1.out hd2.below); clear hd2 HB1
   go_wp2
   go_ret
   exact ⟨rfl, HB2.out⟩
  ·rw [if_neg hl] at h
   obtain ⟨⟨r1, r2⟩, hck, h⟩ := Option.bind_eq_some_iff.mp h
   by_cases hok : okSt l0 = true
   case neg => rw [if_neg hok] at h; cases h
   rw [if_pos hok] at h
   obtain rfl := Option.some.inj h
   by_cases hz : r2 = 0
   ·subst hz
    exact StoreFrees.there k A0 c0 l0 A1 c1 l1 r1 w hr0 hc0 hr1 hc1 hgr hl hck hok
   ·exact StoreFrees.nil k A0 c0 l0 A1 c1 l1 r1 r2 w hr0 hc0 hr1 hc1 hgr hl hck (bne_iff_ne.mpr hz)
/-- What reads at type t reads as a value of kind K, of which Q holds. -/
structure Opens {α : Type} (P : Program) (t : TypeId) (K : Kd α) (Q : α → Prop) : Prop where
 out : ∀ {H : Type} {enc : TypeId × Value → H} {W : World} {base : Nat} {sp : Nat → Bool} {held : Bool} {fuel : Nat} {cs : List Value} {x : DataW H × List MemPlace},
  (∀ n ∈ x.1.weights P t, n ≤ reachBytes) → DataW.trod enc P W base sp held fuel t cs = some x → ∃ y, K.K W y cs ∧ Q y
section
variable {P : Program}
theorem opens_string {t : TypeId} (ht : P.underlying t = some .string) : Opens P t Kd.string (fun s => s.size ≤ 140737488351232) := by
 constructor
 intro H enc W base sp held fuel cs x hw h
 obtain ⟨s, rfl, rfl, hs⟩ : ∃ s : ByteArray, cs = [.string s] ∧ x = (.lit (.string s.data.toList), []) ∧ s.size ≤ maxLen := by
  cases fuel with
  | zero => simp [DataW.trod] at h
  | succ n =>
   unfold DataW.trod at h
   rw [ht] at h
   split at h <;> simp_all
 refine ⟨s, rfl, ?_⟩
 have := hw s.data.toList.length (by simp [DataW.weights])
 rw [Array.length_toList] at this
 exact this
theorem opens_int {t : TypeId} {q : IntKind} (ht : P.underlying t = some (.int q)) : Opens P t (Kd.int q) (fun n => (Lit.int q n).wf = true) := by
 constructor
 intro H enc W base sp held fuel cs x hw h
 obtain ⟨n, rfl, hs⟩ : ∃ n : Int, cs = [.int q n] ∧ (Lit.int q n).wf = true := by
  cases fuel with
  | zero => simp [DataW.trod] at h
  | succ n =>
   unfold DataW.trod at h
   rw [ht] at h
   split at h <;> simp_all
 exact ⟨n, rfl, hs⟩
theorem weights_all {H : Type} {e : TypeId} : ∀ {ds : List (DataW H)} {d : DataW H}, d ∈ ds → ∀ n ∈ d.weights P e, n ∈ DataW.weightsAll P e ds
 | d0 :: ds, d, hd, n, hn => by
  simp only [DataW.weightsAll, List.mem_append]
  rcases List.mem_cons.mp hd with rfl | h
  ·exact .inl hn
  ·exact .inr (weights_all h n hn)
theorem choose_list {α : Type} {p : Nat → α → Prop} : ∀ {n : Nat}, (∀ i, i < n → ∃ y, p i y) → ∃ ys : List α, ys.length = n ∧ ∀ i y, ys[i]? = some y → p i y
 | 0, _ => ⟨[], rfl, fun i y h => by simp at h⟩
 | n + 1, h => by
  obtain ⟨ys, hl, hy⟩ := choose_list (n := n) (fun i hi => h i (by omega))
  obtain ⟨y, hp⟩ := h n (by omega)
  refine ⟨ys ++ [y], by simp [hl], fun i z hz => ?_⟩
  by_cases hi : i < n
  ·rw [List.getElem?_append_left (by omega)] at hz
   exact hy i z hz
  ·have := (List.getElem?_eq_some_iff.mp hz).1
   simp at this
   have e : i = n := by omega
   subst e
   rw [List.getElem?_append_right (by omega)] at hz
   simp [hl] at hz
   subst hz
   exact hp
theorem opens_slice {α : Type} {t e : TypeId} {K : Kd α} {Q : α → Prop} (he : Opens P e K Q) (ht : P.underlying t = some (.slice e)) (hc : P.cellsOf e = K.sz) (bytes : Nat) (hb : P.bytesOf e = bytes) :
  Opens P t (Kd.slice e K) (fun l => l.length * bytes ≤ 140737488351232 ∧ ∀ x ∈ l, Q x) := by
 constructor
 intro H enc W base sp held fuel cs x hw h
 rcases Deep.open_slice ht h with ⟨rfl, rfl⟩ | ⟨a, len, cap, m, n, D, Pl, rfl, _, hl, hm, hmm, rfl, hel⟩
 ·exact ⟨[], ⟨none, 0, rfl, Nat.le_refl _, Kd.C_nil K W⟩, by simp, by simp⟩
 ·have hlm : len ≤ m := by rw [hmm]; split <;> omega
  have hw' : ∀ i, i < len → ∀ k ∈ (D i).weights P e, k ≤ reachBytes := fun i hi k hk => hw k (by
   simp only [DataW.weights, ht, List.mem_cons, List.mem_append]
   exact .inr (.inl (weights_all (List.mem_map.mpr ⟨i, by simpa using hi, rfl⟩) k hk)))
  obtain ⟨ys, hys, hY⟩ := choose_list (n := len) (p := fun i y => (∃ c, c.length = K.sz ∧ K.K W y c ∧ ∀ j u, c[j]? = some u → W.cell? (a.add (i * K.sz + j)) = some u) ∧ Q y) (fun i hi => by
   obtain ⟨c, h1, h2⟩ := hel i (by omega)
   obtain ⟨y, hy, hq⟩ := he.out (hw' i hi) h2
   obtain ⟨_, h3, h4⟩ := World.cells?_some h1
   rw [hc] at h3 h4
   refine ⟨y, ⟨c, h3, hy, fun j u hu => ?_⟩, hq⟩
   have hj : j < K.sz := by
    have := (List.getElem?_eq_some_iff.mp hu).1
    omega
   have h5 := h4 j hj
   rw [Addr.add_add] at h5
   rw [h5, hu])
  have hlen : len ≤ maxLen := by omega
  refine ⟨ys, ⟨some a, cap, by rw [hys], by omega, rfl, by rw [hys]; unfold maxLen at hlen; omega, fun _ => ⟨a, rfl, fun j p hj => (hY j p hj).1⟩⟩, ?_, ?_⟩
  ·have := hw ((((List.range len).map D).length + ((List.range (m - len)).map fun j => D (len + j)).length) * P.bytesOf e) (by simp [DataW.weights, ht])
   rw [hb] at this
   simp only [List.length_map, List.length_range] at this
   have h2 : len * bytes ≤ (len + (m - len)) * bytes := Nat.mul_le_mul_right _ (by omega)
   rw [hys]
   unfold reachBytes at this
   omega
  ·intro x hx
   obtain ⟨i, hi, rfl⟩ := List.mem_iff_getElem.mp hx
   exact (hY i _ (List.getElem?_eq_getElem hi)).2
/-- The fields from one on. -/
structure OpensF {α : Type} (P : Program) (fs : List Field) (off : Nat) (K : Kd α) (Q : α → Prop) : Prop where
 out : ∀ {H : Type} {enc : TypeId × Value → H} {W : World} {base : Nat} {sp : Nat → Bool} {held : Bool} {fuel : Nat} {cs : List Value} {xs : List (DataW H × List MemPlace)},
  cs.length = off + K.sz → (∀ n ∈ DataW.weightsEach P (fs.map (·.type)) (xs.map (·.1)), n ≤ reachBytes) → (fs.mapM fun f => DataW.trod enc P W base sp held fuel f.type ((cs.drop f.offset).take (P.cellsOf f.type))) = some xs → ∃ y, K.K W y (cs.drop off) ∧ Q y
theorem opensF_last {α : Type} {f : Field} {off t : Nat} {K : Kd α} {Q : α → Prop} (h : Opens P t K Q) (h0 : f.type = t) (hc : P.cellsOf t = K.sz) (ho : f.offset = off) : OpensF P [f] off K Q := by
 constructor
 intro H enc W base sp held fuel cs xs hl hw hm
 subst h0
 simp only [List.mapM_cons, List.mapM_nil, Option.pure_def, Option.bind_eq_bind, Option.bind_some] at hm
 obtain ⟨x, hx, hm⟩ := Option.bind_eq_some_iff.mp hm
 obtain rfl := Option.some.inj hm
 rw [hc, ho, List.take_of_length_le (by rw [List.length_drop]; omega)] at hx
 exact h.out (fun n hn => hw n (by simp [DataW.weightsEach, hn])) hx
theorem opensF_cons {α β : Type} {f : Field} {fs : List Field} {off t : Nat} {K : Kd α} {K1 : Kd β} {Q : α → Prop} {Q1 : β → Prop} (h : Opens P t K Q) (h0 : f.type = t) (hc : P.cellsOf t = K.sz) (ho : f.offset = off) (h1 : OpensF P fs (off + K.sz) K1 Q1) :
  OpensF P (f :: fs) off (Kd.pair K K1) (fun p => Q p.1 ∧ Q1 p.2) := by
 constructor
 intro H enc W base sp held fuel cs xs hl hw hm
 subst h0
 have hl : cs.length = off + (K.sz + K1.sz) := hl
 rw [List.mapM_cons] at hm
 simp only [Option.pure_def, Option.bind_eq_bind] at hm
 obtain ⟨x, hx, hm⟩ := Option.bind_eq_some_iff.mp hm
 obtain ⟨xs', hxs, hm⟩ := Option.bind_eq_some_iff.mp hm
 obtain rfl := Option.some.inj hm
 rw [hc, ho] at hx
 obtain ⟨y, hy, hq⟩ := h.out (fun n hn => hw n (by simp only [List.map_cons, DataW.weightsEach, List.mem_append]; exact .inl hn)) hx
 obtain ⟨z, hz, hq1⟩ := h1.out (by omega) (fun n hn => hw n (by simp only [List.map_cons, DataW.weightsEach, List.mem_append]; exact .inr hn)) hxs
 refine ⟨(y, z), ⟨(cs.drop off).take K.sz, cs.drop (off + K.sz), ?_, hy, hz⟩, hq, hq1⟩
 rw [← List.drop_drop, List.take_append_drop]
theorem opens_struct {α β : Type} {t : TypeId} {fs : Array Field} {K : Kd α} {Q : α → Prop} (ht : P.underlying t = some (.struct fs)) (h : OpensF P fs.toList 0 K Q) (hc : P.cellsOf t = K.sz) (g : β → α) (g' : α → β) (hg : ∀ y, g (g' y) = y) : Opens P t (Kd.iso K g) (fun x => Q (g x)) := by
 constructor
 intro H enc W base sp held fuel cs x hw hm
 cases fuel with
 | zero => simp [DataW.trod] at hm
 | succ n =>
  unfold DataW.trod at hm
  rw [ht] at hm
  simp only at hm
  split at hm
  ·rename_i hl
   obtain ⟨xs, hxs, rfl⟩ := Option.map_eq_some_iff.mp hm
   obtain ⟨y, hy, hq⟩ := h.out (cs := cs) (xs := xs) (by rw [hl, hc]; omega) (fun n hn => hw n (by simp only [DataW.weights, ht]; exact hn)) hxs
   exact ⟨g' y, by show K.K W (g (g' y)) cs; rw [hg]; simpa using hy, by show Q (g (g' y)); rw [hg]; exact hq⟩
  ·cases hm
theorem opens_struct' {α β : Type} {t : TypeId} {fs : Array Field} {K : Kd α} {Q : α → Prop} {k : Kd β} {WF : β → Prop} (g' : α → β) (g : β → α) (ht : P.underlying t = some (.struct fs)) (h : OpensF P fs.toList 0 K Q) (hc : P.cellsOf t = K.sz) (hk : k = Kd.iso K g) (hg : ∀ y, g (g' y) = y) (hQ : ∀ x, Q (g x) → WF x) : Opens P t k WF := by
 subst hk
 constructor
 intro H enc W base sp held fuel cs x hw hm
 obtain ⟨y, h1, h2⟩ := (opens_struct ht h hc g g' hg).out hw hm
 exact ⟨y, h1, hQ y h2⟩
end
def WF48 (x : S48) : Prop := ((fun s : ByteArray => s.size ≤ 140737488351232) x.f0) ∧ ((fun s : ByteArray => s.size ≤ 140737488351232) x.f1)
theorem opens48 : Opens Try.prog 48 k48 WF48 :=
 opens_struct' (fun p : (ByteArray) × (ByteArray) => (⟨p.1, p.2⟩ : S48)) (fun x : S48 => (x.f0, x.f1)) Try.underlying48 (opensF_cons (opens_string Try.underlying9) rfl (by kernel_rfl) rfl (opensF_last (opens_string Try.underlying9) rfl (by kernel_rfl) rfl)) (by kernel_rfl) rfl (fun _ => rfl) (fun _ h => h)
def WF43 (x : S43) : Prop := ((fun s : ByteArray => s.size ≤ 140737488351232) x.f0) ∧ ((fun l : List (S48) => l.length * 32 ≤ 140737488351232 ∧ ∀ x ∈ l, WF48 x) x.f1)
theorem opens43 : Opens Try.prog 43 k43 WF43 :=
 opens_struct' (fun p : (ByteArray) × (List (S48)) => (⟨p.1, p.2⟩ : S43)) (fun x : S43 => (x.f0, x.f1)) Try.underlying43 (opensF_cons (opens_string Try.underlying9) rfl (by kernel_rfl) rfl (opensF_last (opens_slice opens48 Try.underlying41 (by kernel_rfl) 32 (by kernel_rfl)) rfl (by kernel_rfl) rfl)) (by kernel_rfl) rfl (fun _ => rfl) (fun _ h => h)
def WF94 (x : S94) : Prop := ((fun n : Int => (Lit.int .i64 n).wf = true) x.f0) ∧ ((fun n : Int => (Lit.int .i64 n).wf = true) x.f1) ∧ ((fun s : ByteArray => s.size ≤ 140737488351232) x.f2) ∧ ((fun n : Int => (Lit.int .i64 n).wf = true) x.f3) ∧ ((fun n : Int => (Lit.int .i64 n).wf = true) x.f4) ∧ ((fun n : Int => (Lit.int .i64 n).wf = true) x.f5)
theorem opens94 : Opens Try.prog 94 k94 WF94 :=
 opens_struct' (fun p : (Int) × (Int) × (ByteArray) × (Int) × (Int) × (Int) => (⟨p.1, p.2.1, p.2.2.1, p.2.2.2.1, p.2.2.2.2.1, p.2.2.2.2.2⟩ : S94)) (fun x : S94 => (x.f0, x.f1, x.f2, x.f3, x.f4, x.f5)) Try.underlying94 (opensF_cons (opens_int Try.underlying3) rfl (by kernel_rfl) rfl (opensF_cons (opens_int Try.underlying3) rfl (by kernel_rfl) rfl (opensF_cons (opens_string Try.underlying9) rfl (by kernel_rfl) rfl (opensF_cons (opens_int Try.underlying3) rfl (by kernel_rfl) rfl (opensF_cons (opens_int Try.underlying3) rfl (by kernel_rfl) rfl (opensF_last (opens_int Try.underlying3) rfl (by kernel_rfl) rfl)))))) (by kernel_rfl) rfl (fun _ => rfl) (fun _ h => h)
def StoreFrees.Pure : Prop := ∀ (l0 : List (S43)) (l1 : List (S94)), (fun l : List (S43) => l.length * 40 ≤ 140737488351232 ∧ ∀ x ∈ l, WF43 x) l0 → (fun l : List (S94) => l.length * 56 ≤ 140737488351232 ∧ ∀ x ∈ l, WF94 x) l1 → ∃ k, truantlaw12_StoreFrees.f k l0 l1 = some true
section
variable {α : Type}
theorem Ev.pos {c : Prop} [Decidable c] {A B : Nat → Option α} {r : α} (h : c) (k : Ev A r) : Ev (fun n => if c then A n else B n) r := Ev.congr (fun n => if_pos h) k
theorem Ev.neg {c : Prop} [Decidable c] {A B : Nat → Option α} {r : α} (h : ¬ c) (k : Ev B r) : Ev (fun n => if c then A n else B n) r := Ev.congr (fun n => if_neg h) k
theorem Ev.one {β : Type} {a : Option β} {b : β} {f : Nat → β → Option α} {r : α} (h : a = some b) (k : Ev (fun n => f n b) r) : Ev (fun n => a.bind (f n)) r := Ev.congr (fun n => by rw [h]; rfl) k
theorem Ev.eq {g : Nat → Option α} {r r' : α} (k : Ev g r) (h : r = r') : Ev g r' := h ▸ k
end
end Go.Proofs.Ytonmlncejikbiaa.Q
namespace Go.Proofs.Ytonmlncejikbiaa.Q
open Go.RowKit Go.Proofs.YtonmlncejikbiaaW.PrintWords Go.Proofs.YtonmlncejikbiaaW.PrintLast Go.Proofs.YtonmlncejikbiaaW.PrintMore
attribute [local go_sem] max2_int min2_int max_two min_two max_three min_three max_four min_four   -- for this text's walks alone
set_option linter.unusedVariables false
set_option linter.unusedSimpArgs false
/-! ### truantref03_Find: function 19 -/
def truantref03_Find.l0 : Nat → List (S43) → ByteArray → Int → Option (Int)
 | 0, _, _, _ => none
 | k + 1, x0, x1, x5 => if x5 < (x0.length : Int) then (if 0 ≤ x5 then (if ((rd_T43 x0 x5).f0).toList = x1.toList then (some x5) else (truantref03_Find.l0 k x0 x1 (wrap64 (x5 + 1)))) else (none)) else (some (-1))
def truantref03_Find.f (k : Nat) (l0 : List (S43)) (a1 : ByteArray) : Option (Int) := truantref03_Find.l0 k l0 a1 0
theorem truantref03_Find.mono_l : ∀ k, (∀ y0 y1 y2, LeO (truantref03_Find.l0 k y0 y1 y2) (truantref03_Find.l0 (k + 1) y0 y1 y2))
 | 0 => fun _ _ _ r h => by simp [truantref03_Find.l0] at h
 | k + 1 => by
  have ih0 := truantref03_Find.mono_l k
  ·intro y0 y1 y2
   unfold truantref03_Find.l0
   repeat' first
   | (with_reducible exact ih0 _ _ _)
   | (with_reducible exact LeO.refl _)
   | (with_reducible exact LeO.none _)
   | (with_reducible refine LeO.ite ?_ ?_)
   | (with_reducible refine LeO.bind ?_ (fun _ => ?_))
   | exact ih0 _ _ _
   | exact LeO.none _
   | refine LeO.ite ?_ ?_
   | refine LeO.bind ?_ (fun _ => ?_)
theorem truantref03_Find.mono : ∀ a0 a1 k, LeO (truantref03_Find.f k a0 a1) (truantref03_Find.f (k + 1) a0 a1) := by
 intro a0 a1 k
 have ih0 := truantref03_Find.mono_l k
 unfold truantref03_Find.f
 repeat' first
   | (with_reducible exact ih0 _ _ _)
   | (with_reducible exact LeO.refl _)
   | (with_reducible exact LeO.none _)
   | (with_reducible refine LeO.ite ?_ ?_)
   | (with_reducible refine LeO.bind ?_ (fun _ => ?_))
   | exact ih0 _ _ _
   | exact LeO.none _
   | refine LeO.ite ?_ ?_
   | refine LeO.bind ?_ (fun _ => ?_)
set_option maxHeartbeats 8000000 in
set_option maxRecDepth 100000 in
theorem truantref03_Find.calls (k : Nat) (A0 : Option Addr) (c0 : Nat) (l0 : List (S43)) (a1 : ByteArray) (r : Int) (w : World) (hr0 : Kd.C k43 w A0 l0.length l0) (hc0 : l0.length ≤ c0) (h : truantref03_Find.f k l0 a1 = some r) :
  Calls Try.prog 19 #[.slice A0 l0.length c0, .string a1] w fun e w' => e = .returned (.int .i64 r) ∧ Drawn0 w w' := by
 have HR0 := Aside0.mk hr0
 have HC0 := Aside0.mk hc0
 clear hr0 hc0
 have H : (truantref03_Find.l0 k l0 a1 0) = some r := h
 clear h
 have H' := Aside0.mk H
 clear H
 go_enter Try.func19, Try.ntmps19
 go_wp2
 go_loopg [5] k (fun kq v5 w' => ∃ (x5_1 : Int), v5 = .int .i64 x5_1 ∧ Aside0 (truantref03_Find.l0 kq l0 a1 x5_1 = some r) ∧ Aside0 (kq ≤ k) ∧ Drawn0 w w')
 case atStart => exact ⟨(0), (by first | rfl | (simp; done) | (simp [*]; done)), H', ⟨Nat.le_refl _⟩, by repeat (first | exact Drawn0.refl _ | apply Drawn0.step)⟩
 case round =>
  clear H'
  try clear c1
  try clear p2
  obtain ⟨x5_1, rfl, HA, HK1, ⟨m1, rfl⟩⟩ := hrel
  cases gk with
  | zero => exact absurd HA.out (by simp [truantref03_Find.l0])
  | succ k1 =>
   have H := HA.out
   clear HA
   simp only [truantref03_Find.l0] at H
   by_cases c3 : x5_1 < (l0.length : Int)
   ·rw [if_pos c3] at H
    have c3b0 : decide (x5_1 < (l0.length : Int)) = true := decide_eq_true c3
    clear c3
    by_cases c4 : 0 ≤ x5_1
    ·rw [if_pos c4] at H
     have c4b0 : decide (0 ≤ x5_1) = true := decide_eq_true c4
     clear c4
     by_cases c5 : ((rd_T43 l0 x5_1).f0).toList = a1.toList
     ·rw [if_pos c5] at H
      have c5b0 : (((rd_T43 l0 x5_1).f0).toList == a1.toList) = true := beq_iff_eq.mpr c5
      have c5b1 : (((rd_T43 l0 x5_1).f0).toList != a1.toList) = false := bne_eq_false_iff_eq.mpr c5
      clear c5
      obtain rfl := Option.some.inj H
      have p101 : 0 ≤ (x5_1 : Int) := of_decide_eq_true (by first | (with_reducible assumption) | assumption)
      have q101 : x5_1 < (l0.length : Int) := of_decide_eq_true (by first | (with_reducible assumption) | assumption)
      obtain ⟨ad101, A101_1, c101_1, e101, hx101_0, hx101_1, hl101_1, hi101_1⟩ := at_T43 HR0.out x5_1 p101 q101
      cases e101
      have HR101_1 := Aside0.mk hi101_1
      have HC101_1 := Aside0.mk hl101_1
      clear hi101_1 hl101_1
      replace p101 := eq_true p101
      replace q101 := eq_true q101
      go_wp2
      go_ret
      exact ⟨by first | rfl | (simp; done) | (simp [*]; done), by repeat (first | exact Drawn0.refl _ | apply Drawn0.step)⟩
     ·rw [if_neg c5] at H
      have c5b0 : (((rd_T43 l0 x5_1).f0).toList == a1.toList) = false := beq_eq_false_iff_ne.mpr c5
      have c5b1 : (((rd_T43 l0 x5_1).f0).toList != a1.toList) = true := bne_iff_ne.mpr c5
      have H' := Aside0.mk H
      clear H
      have p101 : 0 ≤ (x5_1 : Int) := of_decide_eq_true (by first | (with_reducible assumption) | assumption)
      have q101 : x5_1 < (l0.length : Int) := of_decide_eq_true (by first | (with_reducible assumption) | assumption)
      obtain ⟨ad101, A101_1, c101_1, e101, hx101_0, hx101_1, hl101_1, hi101_1⟩ := at_T43 HR0.out x5_1 p101 q101
      cases e101
      have HR101_1 := Aside0.mk hi101_1
      have HC101_1 := Aside0.mk hl101_1
      clear hi101_1 hl101_1
      replace p101 := eq_true p101
      replace q101 := eq_true q101
      go_wp2
      go_roundg k1
      case measure => have := HK1.out; omega
      case rel => exact ⟨(wrap64 (x5_1 + 1)), (by first | rfl | (simp; done) | (simp [*]; done)), H', ⟨by have := HK1.out; omega⟩, by repeat (first | exact Drawn0.refl _ | apply Drawn0.step)⟩
    ·rw [if_neg c4] at H
     exact absurd H (by simp)
   ·rw [if_neg c3] at H
    have c3b0 : decide (x5_1 < (l0.length : Int)) = false := decide_eq_false c3
    clear c3
    obtain rfl := Option.some.inj H
    go_wp2
    go_ret
    exact ⟨by first | rfl | (simp; done) | (simp [*]; done), by repeat (first | exact Drawn0.refl _ | apply Drawn0.step)⟩
/-! ### truantref03_Is: function 22 -/
def truantref03_Is.f (k : Nat) (l0 : List (S43)) (a1 : ByteArray) : Option (Bool) := if a1.toList = ([105, 110, 116] : List UInt8) then (some true) else (if a1.toList = ([98, 111, 111, 108] : List UInt8) then (some true) else (if (a1.size : Int) > 0 then (if 0 < (a1.size : Int) then (if (bt a1 0) = 42 then (if 1 ≤ (a1.size : Int) then ((truantref03_Find.f k l0 (a1.extract 1 a1.size)).bind fun t102 => (some (decide (t102 ≥ 0)))) else (none)) else (some false)) else (none)) else (some false)))
theorem truantref03_Is.mono : ∀ a0 a1 k, LeO (truantref03_Is.f k a0 a1) (truantref03_Is.f (k + 1) a0 a1) := by
 intro a0 a1 k
 unfold truantref03_Is.f
 repeat' first
   | (with_reducible exact truantref03_Find.mono _ _ _)
   | (with_reducible exact LeO.refl _)
   | (with_reducible exact LeO.none _)
   | (with_reducible refine LeO.ite ?_ ?_)
   | (with_reducible refine LeO.bind ?_ (fun _ => ?_))
   | exact truantref03_Find.mono _ _ _
   | exact LeO.none _
   | refine LeO.ite ?_ ?_
   | refine LeO.bind ?_ (fun _ => ?_)
set_option maxHeartbeats 8000000 in
set_option maxRecDepth 100000 in
theorem truantref03_Is.calls (k : Nat) (A0 : Option Addr) (c0 : Nat) (l0 : List (S43)) (a1 : ByteArray) (r : Bool) (w : World) (hr0 : Kd.C k43 w A0 l0.length l0) (hc0 : l0.length ≤ c0) (h : truantref03_Is.f k l0 a1 = some r) :
  Calls Try.prog 22 #[.slice A0 l0.length c0, .string a1] w fun e w' => e = .returned (.bool r) ∧ Drawn0 w w' := by
 have HR0 := Aside0.mk hr0
 have HC0 := Aside0.mk hc0
 clear hr0 hc0
 have H : (if a1.toList = ([105, 110, 116] : List UInt8) then (some true) else (if a1.toList = ([98, 111, 111, 108] : List UInt8) then (some true) else (if (a1.size : Int) > 0 then (if 0 < (a1.size : Int) then (if (bt a1 0) = 42 then (if 1 ≤ (a1.size : Int) then ((truantref03_Find.f k l0 (a1.extract 1 a1.size)).bind fun t102 => (some (decide (t102 ≥ 0)))) else (none)) else (some false)) else (none)) else (some false)))) = some r := h
 clear h
 by_cases c3 : a1.toList = ([105, 110, 116] : List UInt8)
 ·rw [if_pos c3] at H
  have c3b0 : (a1.toList == ([105, 110, 116] : List UInt8)) = true := beq_iff_eq.mpr c3
  have c3b1 : (a1.toList != ([105, 110, 116] : List UInt8)) = false := bne_eq_false_iff_eq.mpr c3
  clear c3
  obtain rfl := Option.some.inj H
  go_enter Try.func22, Try.ntmps22
  go_wp2
  go_ret
  exact ⟨by first | rfl | (simp; done) | (simp [*]; done), by repeat (first | exact Drawn0.refl _ | apply Drawn0.step)⟩
 ·rw [if_neg c3] at H
  have c3b0 : (a1.toList == ([105, 110, 116] : List UInt8)) = false := beq_eq_false_iff_ne.mpr c3
  have c3b1 : (a1.toList != ([105, 110, 116] : List UInt8)) = true := bne_iff_ne.mpr c3
  by_cases c4 : a1.toList = ([98, 111, 111, 108] : List UInt8)
  ·rw [if_pos c4] at H
   have c4b0 : (a1.toList == ([98, 111, 111, 108] : List UInt8)) = true := beq_iff_eq.mpr c4
   have c4b1 : (a1.toList != ([98, 111, 111, 108] : List UInt8)) = false := bne_eq_false_iff_eq.mpr c4
   clear c4
   obtain rfl := Option.some.inj H
   go_enter Try.func22, Try.ntmps22
   go_wp2
   go_ret
   exact ⟨by first | rfl | (simp; done) | (simp [*]; done), by repeat (first | exact Drawn0.refl _ | apply Drawn0.step)⟩
  ·rw [if_neg c4] at H
   have c4b0 : (a1.toList == ([98, 111, 111, 108] : List UInt8)) = false := beq_eq_false_iff_ne.mpr c4
   have c4b1 : (a1.toList != ([98, 111, 111, 108] : List UInt8)) = true := bne_iff_ne.mpr c4
   by_cases c5 : (a1.size : Int) > 0
   ·rw [if_pos c5] at H
    have c5b0 : decide (0 < (a1.size : Int)) = true := decide_eq_true c5
    have c5b1 : decide (0 < a1.size) = true := decide_eq_true (by omega)
    clear c5
    by_cases c6 : 0 < (a1.size : Int)
    ·rw [if_pos c6] at H
     have c6b0 : decide (0 < (a1.size : Int)) = true := decide_eq_true c6
     have c6b1 : decide (0 < a1.size) = true := decide_eq_true (by omega)
     clear c6
     by_cases c8 : (bt a1 0) = 42
     ·rw [if_pos c8] at H
      have c8b0 : ((bt a1 0) == 42) = true := beq_iff_eq.mpr c8
      have c8b1 : ((bt a1 0) != 42) = false := bne_eq_false_iff_eq.mpr c8
      clear c8
      by_cases c9 : 1 ≤ (a1.size : Int)
      ·rw [if_pos c9] at H
       have c9b0 := eq_true c9
       have c9b1 : decide (1 ≤ (a1.size : Int)) = true := decide_eq_true c9
       clear c9
       replace H := Option.bind_eq_some_iff.mp H
       obtain ⟨t102, A100, H⟩ := H
       replace H : (some (decide (t102 ≥ 0))) = some r := H
       have A10 := Aside0.mk A100
       clear A100
       obtain rfl := Option.some.inj H
       have p7 : 0 ≤ (0 : Int) := (by omega)
       have q7 : 0 < a1.size := (by have : (0 : Int) < (a1.size : Int) := of_decide_eq_true (by first | (with_reducible assumption) | assumption); omega)
       have hx7 : ∀ h : 0 < a1.size, ((a1[0]'h).toNat : Int) = bt a1 0 := bt_at a1 0
       clear p7
       have qi7 : (0 < (a1.size : Int)) = True := eq_true (of_decide_eq_true (by first | (with_reducible assumption) | assumption))
       replace q7 := eq_true q7
       go_enter Try.func22, Try.ntmps22
       go_wp2_with (first | (go_at_call 19; (with_reducible refine (truantref03_Find.calls k _ _ l0 (a1.extract 1 a1.size) t102 _ ?side1 ?side2 A10.out).mono ?_); (case side1 => repeat (first | exact HR0.out | (with_reducible refine Kd.C_alloc ?_ _) | (with_reducible refine Kd.C_drewN ?_ _) | (with_reducible refine Kd.C_drew ?_))); (case side2 => exact HC0.out); rintro e w' ⟨rfl, ⟨nd, rfl⟩⟩))
       go_ret
       exact ⟨by first | rfl | (simp; done) | (simp [*]; done), by repeat (first | exact Drawn0.refl _ | apply Drawn0.step)⟩
      ·rw [if_neg c9] at H
       exact absurd H (by simp)
     ·rw [if_neg c8] at H
      have c8b0 : ((bt a1 0) == 42) = false := beq_eq_false_iff_ne.mpr c8
      have c8b1 : ((bt a1 0) != 42) = true := bne_iff_ne.mpr c8
      obtain rfl := Option.some.inj H
      have p7 : 0 ≤ (0 : Int) := (by omega)
      have q7 : 0 < a1.size := (by have : (0 : Int) < (a1.size : Int) := of_decide_eq_true (by first | (with_reducible assumption) | assumption); omega)
      have hx7 : ∀ h : 0 < a1.size, ((a1[0]'h).toNat : Int) = bt a1 0 := bt_at a1 0
      clear p7
      have qi7 : (0 < (a1.size : Int)) = True := eq_true (of_decide_eq_true (by first | (with_reducible assumption) | assumption))
      replace q7 := eq_true q7
      go_enter Try.func22, Try.ntmps22
      go_wp2
      go_ret
      exact ⟨by first | rfl | (simp; done) | (simp [*]; done), by repeat (first | exact Drawn0.refl _ | apply Drawn0.step)⟩
    ·rw [if_neg c6] at H
     exact absurd H (by simp)
   ·rw [if_neg c5] at H
    have c5b0 : decide (0 < (a1.size : Int)) = false := decide_eq_false c5
    have c5b1 : decide (0 < a1.size) = false := decide_eq_false (by omega)
    clear c5
    obtain rfl := Option.some.inj H
    go_enter Try.func22, Try.ntmps22
    go_wp2
    go_ret
    exact ⟨by first | rfl | (simp; done) | (simp [*]; done), by repeat (first | exact Drawn0.refl _ | apply Drawn0.step)⟩
/-! ### truantref02_letter: function 95 -/
def truantref02_letter.f (a0 : Int) : Option (Bool) := if a0 ≥ 97 then (if a0 ≤ 122 then (some true) else (if a0 ≥ 65 then (if a0 ≤ 90 then (some true) else (some (a0 == 95))) else (some (a0 == 95)))) else (if a0 ≥ 65 then (if a0 ≤ 90 then (some true) else (some (a0 == 95))) else (some (a0 == 95)))
set_option maxHeartbeats 8000000 in
set_option maxRecDepth 100000 in
theorem truantref02_letter.calls (a0 : Int) (r : Bool) (w : World) (h : truantref02_letter.f a0 = some r) :
  Calls Try.prog 95 #[.int .u8 a0] w fun e w' => e = .returned (.bool r) ∧ Drawn0 w w' := by
 have H : (if a0 ≥ 97 then (if a0 ≤ 122 then (some true) else (if a0 ≥ 65 then (if a0 ≤ 90 then (some true) else (some (a0 == 95))) else (some (a0 == 95)))) else (if a0 ≥ 65 then (if a0 ≤ 90 then (some true) else (some (a0 == 95))) else (some (a0 == 95)))) = some r := h
 clear h
 by_cases c2 : a0 ≥ 97
 ·rw [if_pos c2] at H
  have c2b0 : decide (97 ≤ a0) = true := decide_eq_true c2
  clear c2
  by_cases c3 : a0 ≤ 122
  ·rw [if_pos c3] at H
   have c3b0 : decide (a0 ≤ 122) = true := decide_eq_true c3
   clear c3
   obtain rfl := Option.some.inj H
   go_enter Try.func95, Try.ntmps95
   go_wp2
   go_ret
   exact ⟨by first | rfl | (simp; done) | (simp [*]; done), by repeat (first | exact Drawn0.refl _ | apply Drawn0.step)⟩
  ·rw [if_neg c3] at H
   have c3b0 : decide (a0 ≤ 122) = false := decide_eq_false c3
   clear c3
   by_cases c4 : a0 ≥ 65
   ·rw [if_pos c4] at H
    have c4b0 : decide (65 ≤ a0) = true := decide_eq_true c4
    clear c4
    by_cases c5 : a0 ≤ 90
    ·rw [if_pos c5] at H
     have c5b0 : decide (a0 ≤ 90) = true := decide_eq_true c5
     clear c5
     obtain rfl := Option.some.inj H
     go_enter Try.func95, Try.ntmps95
     go_wp2
     go_ret
     exact ⟨by first | rfl | (simp; done) | (simp [*]; done), by repeat (first | exact Drawn0.refl _ | apply Drawn0.step)⟩
    ·rw [if_neg c5] at H
     have c5b0 : decide (a0 ≤ 90) = false := decide_eq_false c5
     clear c5
     obtain rfl := Option.some.inj H
     go_enter Try.func95, Try.ntmps95
     go_wp2
     go_ret
     exact ⟨by first | rfl | (simp; done) | (simp [*]; done), by repeat (first | exact Drawn0.refl _ | apply Drawn0.step)⟩
   ·rw [if_neg c4] at H
    have c4b0 : decide (65 ≤ a0) = false := decide_eq_false c4
    clear c4
    obtain rfl := Option.some.inj H
    go_enter Try.func95, Try.ntmps95
    go_wp2
    go_ret
    exact ⟨by first | rfl | (simp; done) | (simp [*]; done), by repeat (first | exact Drawn0.refl _ | apply Drawn0.step)⟩
 ·rw [if_neg c2] at H
  have c2b0 : decide (97 ≤ a0) = false := decide_eq_false c2
  clear c2
  by_cases c6 : a0 ≥ 65
  ·rw [if_pos c6] at H
   have c6b0 : decide (65 ≤ a0) = true := decide_eq_true c6
   clear c6
   by_cases c7 : a0 ≤ 90
   ·rw [if_pos c7] at H
    have c7b0 : decide (a0 ≤ 90) = true := decide_eq_true c7
    clear c7
    obtain rfl := Option.some.inj H
    go_enter Try.func95, Try.ntmps95
    go_wp2
    go_ret
    exact ⟨by first | rfl | (simp; done) | (simp [*]; done), by repeat (first | exact Drawn0.refl _ | apply Drawn0.step)⟩
   ·rw [if_neg c7] at H
    have c7b0 : decide (a0 ≤ 90) = false := decide_eq_false c7
    clear c7
    obtain rfl := Option.some.inj H
    go_enter Try.func95, Try.ntmps95
    go_wp2
    go_ret
    exact ⟨by first | rfl | (simp; done) | (simp [*]; done), by repeat (first | exact Drawn0.refl _ | apply Drawn0.step)⟩
  ·rw [if_neg c6] at H
   have c6b0 : decide (65 ≤ a0) = false := decide_eq_false c6
   clear c6
   obtain rfl := Option.some.inj H
   go_enter Try.func95, Try.ntmps95
   go_wp2
   go_ret
   exact ⟨by first | rfl | (simp; done) | (simp [*]; done), by repeat (first | exact Drawn0.refl _ | apply Drawn0.step)⟩
/-! ### truantref02_digit: function 97 -/
def truantref02_digit.f (a0 : Int) : Option (Bool) := if a0 ≥ 48 then (some (decide (a0 ≤ 57))) else (some false)
set_option maxHeartbeats 8000000 in
set_option maxRecDepth 100000 in
theorem truantref02_digit.calls (a0 : Int) (r : Bool) (w : World) (h : truantref02_digit.f a0 = some r) :
  Calls Try.prog 97 #[.int .u8 a0] w fun e w' => e = .returned (.bool r) ∧ Drawn0 w w' := by
 have H : (if a0 ≥ 48 then (some (decide (a0 ≤ 57))) else (some false)) = some r := h
 clear h
 by_cases c2 : a0 ≥ 48
 ·rw [if_pos c2] at H
  have c2b0 : decide (48 ≤ a0) = true := decide_eq_true c2
  clear c2
  obtain rfl := Option.some.inj H
  go_enter Try.func97, Try.ntmps97
  go_wp2
  go_ret
  exact ⟨by first | rfl | (simp; done) | (simp [*]; done), by repeat (first | exact Drawn0.refl _ | apply Drawn0.step)⟩
 ·rw [if_neg c2] at H
  have c2b0 : decide (48 ≤ a0) = false := decide_eq_false c2
  clear c2
  obtain rfl := Option.some.inj H
  go_enter Try.func97, Try.ntmps97
  go_wp2
  go_ret
  exact ⟨by first | rfl | (simp; done) | (simp [*]; done), by repeat (first | exact Drawn0.refl _ | apply Drawn0.step)⟩
end Go.Proofs.Ytonmlncejikbiaa.Q
/- 'truantref02.Key': by hand. -/
namespace Go.Proofs.Ytonmlncejikbiaa.Q
open Go.RowKit Go.Proofs.YtonmlncejikbiaaW.PrintWords Go.Proofs.YtonmlncejikbiaaW.PrintLast Go.Proofs.YtonmlncejikbiaaW.PrintMore
set_option linter.unusedVariables false
set_option linter.unusedSimpArgs false
def keyList : List ByteArray := [⟨#[116, 121, 112, 101]⟩, ⟨#[115, 116, 114, 117, 99, 116]⟩, ⟨#[102, 117, 110, 99]⟩, ⟨#[118, 97, 114]⟩, ⟨#[105, 102]⟩, ⟨#[101, 108, 115, 101]⟩, ⟨#[102, 111, 114]⟩, ⟨#[114, 101, 116, 117, 114, 110]⟩, ⟨#[112, 114, 105, 110, 116]⟩, ⟨#[110, 101, 119]⟩, ⟨#[110, 105, 108]⟩, ⟨#[116, 114, 117, 101]⟩, ⟨#[102, 97, 108, 115, 101]⟩, ⟨#[105, 110, 116]⟩, ⟨#[98, 111, 111, 108]⟩, ⟨#[114, 101, 97, 100]⟩]
def keyIs (s k : ByteArray) : Bool := k.toList == s.toList
def truantref02_Key.f (a0 : ByteArray) : Option (Bool) := some (decide (0 ≤ findR (keyIs a0) keyList))
set_option maxHeartbeats 800000 in
theorem truantref02_Key.calls (a0 : ByteArray) (r : Bool) (w : World) (h : truantref02_Key.f a0 = some r) :
  Calls Try.prog 96 #[.string a0] w fun e w' => e = .returned (.bool r) ∧ Below w.heap.size w w' := by
 unfold truantref02_Key.f at h
 have hr := Option.some.inj h
 have HRR := Aside0.mk hr
 clear h hr
 go_enter Try.func96, Try.ntmps96
 go_wp2_with fail
 have HC : Aside0 (∀ k : Nat, k < 16 → (w.alloc (.cells (keyList.map Value.string).toArray 136)).cell? ⟨w.heap.size, k, none⟩ = some (.string (keyList.getD k ⟨#[]⟩))) := ⟨fun k hk => by
  rw [World.cell?_alloc_at _ _ _ _ rfl]
  have h16 : k < keyList.length := hk
  simp [List.getD, List.getElem?_eq_getElem h16]⟩
 have HW : Aside0 (Below w.heap.size w (w.alloc (.cells (keyList.map Value.string).toArray 136))) := ⟨below_alloc (Below.refl _ _) _⟩
 have he : (keyList.map Value.string).toArray = #[.string ⟨#[116, 121, 112, 101]⟩, .string ⟨#[115, 116, 114, 117, 99, 116]⟩, .string ⟨#[102, 117, 110, 99]⟩, .string ⟨#[118, 97, 114]⟩, .string ⟨#[105, 102]⟩, .string ⟨#[101, 108, 115, 101]⟩, .string ⟨#[102, 111, 114]⟩, .string ⟨#[114, 101, 116, 117, 114, 110]⟩, .string ⟨#[112, 114, 105, 110, 116]⟩, .string ⟨#[110, 101, 119]⟩, .string ⟨#[110, 105, 108]⟩, .string ⟨#[116, 114, 117, 101]⟩, .string ⟨#[102, 97, 108, 115, 101]⟩, .string ⟨#[105, 110, 116]⟩, .string ⟨#[98, 111, 111, 108]⟩, .string ⟨#[114, 101, 97, 100]⟩] := rfl
 rw [he] at HC HW
 clear he
 generalize w.alloc _ = W1 at HC HW ⊢
 go_loopw [4] (fun v wr => ∃ k : Nat, v = .int .i64 k ∧ k ≤ 16 ∧ Aside0 (∀ i : Nat, i < k → keyIs a0 (keyList.getD i ⟨#[]⟩) = false) ∧ wr = W1) (fun v _ => 16 - (intOf v).toNat)
 case atStart => exact ⟨0, rfl, by omega, ⟨fun i h => absurd h (Nat.not_lt_zero _)⟩, rfl⟩
 case round =>
  obtain ⟨k, rfl, hk, HA, rfl⟩ := hrel
  by_cases hlt : k < 16
  ·have hc := HC.out k hlt
   obtain ⟨x, ex⟩ : ∃ x, x = keyList.getD k ⟨#[]⟩ := ⟨_, rfl⟩
   rw [← ex] at hc
   have EX := Aside0.mk ex; clear ex
   rcases he : (x.toList == a0.toList) with _ | _
   ·have he2 : ¬ x.toList = a0.toList := beq_eq_false_iff_ne.mp he
    have HA1 : Aside0 (∀ i : Nat, i < k + 1 → keyIs a0 (keyList.getD i ⟨#[]⟩) = false) := ⟨all_succ (P := fun i => keyIs a0 (keyList.getD i ⟨#[]⟩) = false) HA.out (by unfold keyIs; rw [← EX.out]; exact he)⟩
    clear HA EX
    go_wp2
    go_roundw
    case rel => exact ⟨k + 1, by go_num, by omega, HA1, by first | rfl | trivial⟩
    case measure => simp [intOf]; omega
   ·have HF : Aside0 (r = true) := ⟨by rw [← HRR.out, find_last (l := keyList) (z := ⟨#[]⟩) (k := k) hlt HA.out (by unfold keyIs; rw [← EX.out]; exact he)]; exact decide_eq_true (by omega)⟩
    have he2 : x.toList = a0.toList := beq_iff_eq.mp he
    clear EX HA
    go_wp2
    go_ret
    exact ⟨by rw [HF.out]; rfl, HW.out⟩
  ·have HF : Aside0 (r = false) := ⟨by rw [← HRR.out, find_none (l := keyList) (z := ⟨#[]⟩) (fun i hi => HA.out i (by have : keyList.length = 16 := rfl; omega))]; rfl⟩
   go_wp2
   go_ret
   exact ⟨by rw [HF.out]; rfl, HW.out⟩
end Go.Proofs.Ytonmlncejikbiaa.Q
namespace Go.Proofs.Ytonmlncejikbiaa.Q
open Go.RowKit Go.Proofs.YtonmlncejikbiaaW.PrintWords Go.Proofs.YtonmlncejikbiaaW.PrintLast Go.Proofs.YtonmlncejikbiaaW.PrintMore
attribute [local go_sem] max2_int min2_int max_two min_two max_three min_three max_four min_four   -- for this text's walks alone
set_option linter.unusedVariables false
set_option linter.unusedSimpArgs false
/-! ### truantref02_Word: function 70 -/
mutual
def truantref02_Word.j0 : Nat → ByteArray → Bool → Option (Bool)
 | 0, _, _ => none
 | k + 1, x0, x21 => if x21 = true then (some false) else (truantref02_Word.l0 k x0 0)
def truantref02_Word.l0 : Nat → ByteArray → Int → Option (Bool)
 | 0, _, _ => none
 | k + 1, x0, x3 => if x3 < (x0.size : Int) then (if 0 ≤ x3 then ((truantref02_letter.f (bt x0 x3)).bind fun t105 => (if t105 = true then (truantref02_Word.l0 k x0 (wrap64 (x3 + 1))) else ((truantref02_digit.f (bt x0 x3)).bind fun t106 => (if t106 = true then (truantref02_Word.l0 k x0 (wrap64 (x3 + 1))) else (some false))))) else (none)) else (some true)
end
def truantref02_Word.f (k : Nat) (a0 : ByteArray) : Option (Bool) := if (a0.size : Int) = 0 then (truantref02_Word.j0 k a0 true) else (if (a0.size : Int) > 12 then (truantref02_Word.j0 k a0 true) else (if 0 < (a0.size : Int) then ((truantref02_letter.f (bt a0 0)).bind fun t103 => (if t103 = true then ((truantref02_Key.f a0).bind fun t104 => (truantref02_Word.j0 k a0 t104)) else (truantref02_Word.j0 k a0 true))) else (none)))
theorem truantref02_Word.mono_l : ∀ k, (∀ y0 y1, LeO (truantref02_Word.j0 k y0 y1) (truantref02_Word.j0 (k + 1) y0 y1)) ∧ (∀ y0 y1, LeO (truantref02_Word.l0 k y0 y1) (truantref02_Word.l0 (k + 1) y0 y1))
 | 0 => ⟨fun _ _ r h => by simp [truantref02_Word.j0] at h, fun _ _ r h => by simp [truantref02_Word.l0] at h⟩
 | k + 1 => by
  obtain ⟨ih0, ih1⟩ := truantref02_Word.mono_l k
  refine ⟨?_, ?_⟩
  ·intro y0 y1
   unfold truantref02_Word.j0
   repeat' first
   | (with_reducible exact ih0 _ _)
   | (with_reducible exact ih1 _ _)
   | (with_reducible exact LeO.refl _)
   | (with_reducible exact LeO.none _)
   | (with_reducible refine LeO.ite ?_ ?_)
   | (with_reducible refine LeO.bind ?_ (fun _ => ?_))
   | exact ih0 _ _
   | exact ih1 _ _
   | exact LeO.none _
   | refine LeO.ite ?_ ?_
   | refine LeO.bind ?_ (fun _ => ?_)
  ·intro y0 y1
   unfold truantref02_Word.l0
   repeat' first
   | (with_reducible exact ih0 _ _)
   | (with_reducible exact ih1 _ _)
   | (with_reducible exact LeO.refl _)
   | (with_reducible exact LeO.none _)
   | (with_reducible refine LeO.ite ?_ ?_)
   | (with_reducible refine LeO.bind ?_ (fun _ => ?_))
   | exact ih0 _ _
   | exact ih1 _ _
   | exact LeO.none _
   | refine LeO.ite ?_ ?_
   | refine LeO.bind ?_ (fun _ => ?_)
theorem truantref02_Word.mono : ∀ a0 k, LeO (truantref02_Word.f k a0) (truantref02_Word.f (k + 1) a0) := by
 intro a0 k
 obtain ⟨ih0, ih1⟩ := truantref02_Word.mono_l k
 unfold truantref02_Word.f
 repeat' first
   | (with_reducible exact ih0 _ _)
   | (with_reducible exact ih1 _ _)
   | (with_reducible exact LeO.refl _)
   | (with_reducible exact LeO.none _)
   | (with_reducible refine LeO.ite ?_ ?_)
   | (with_reducible refine LeO.bind ?_ (fun _ => ?_))
   | exact ih0 _ _
   | exact ih1 _ _
   | exact LeO.none _
   | refine LeO.ite ?_ ?_
   | refine LeO.bind ?_ (fun _ => ?_)
set_option maxHeartbeats 8000000 in
set_option maxRecDepth 100000 in
theorem truantref02_Word.calls (k : Nat) (a0 : ByteArray) (r : Bool) (w : World) (h : truantref02_Word.f k a0 = some r) :
  Calls Try.prog 70 #[.string a0] w fun e w' => e = .returned (.bool r) ∧ Below w.heap.size w w' := by
 have HB := Aside0.mk (Below.refl w.heap.size w)
 have H : (if (a0.size : Int) = 0 then (truantref02_Word.j0 k a0 true) else (if (a0.size : Int) > 12 then (truantref02_Word.j0 k a0 true) else (if 0 < (a0.size : Int) then ((truantref02_letter.f (bt a0 0)).bind fun t103 => (if t103 = true then ((truantref02_Key.f a0).bind fun t104 => (truantref02_Word.j0 k a0 t104)) else (truantref02_Word.j0 k a0 true))) else (none)))) = some r := h
 clear h
 have HC2 := Aside0.mk H
 clear H
 go_enter Try.func70, Try.ntmps70
 go_upto_region 1 with (fail)
 go_cut [21] (fun v21 wc => ∃ (kq : Nat) (x21_1 : Bool), v21 = .bool x21_1 ∧ Aside0 (truantref02_Word.j0 kq a0 x21_1 = some r) ∧ Aside0 (kq ≤ k) ∧ Aside0 (Below w.heap.size w wc))
 case first =>
  have H := HC2.out
  clear HC2
  by_cases c3 : (a0.size : Int) = 0
  ·rw [if_pos c3] at H
   have c3b0 : ((a0.size : Int) == 0) = true := beq_iff_eq.mpr c3
   have c3b1 : ((a0.size : Int) != 0) = false := bne_eq_false_iff_eq.mpr c3
   clear c3
   (first | rw [c3b0] | rw [c3b1] | rw [c3b4] | (simp only [i64_w, i32_w]; rw [c3b0]) | skip)
   have H' := Aside0.mk H
   clear H
   go_wp2
   go_meet
   case rel => exact ⟨_, (true), (by first | rfl | (simp; done) | (simp [*]; done)), H', ⟨by first | omega | exact Nat.le_refl _⟩, ⟨by repeat (first | (with_reducible first | exact HB.out | apply below_alloc | apply pw_below_drewN | apply below_drew1) | exact HB.out)⟩⟩
  ·rw [if_neg c3] at H
   have c3b0 : ((a0.size : Int) == 0) = false := beq_eq_false_iff_ne.mpr c3
   have c3b1 : ((a0.size : Int) != 0) = true := bne_iff_ne.mpr c3
   (first | rw [c3b0] | rw [c3b1] | rw [c3b4] | (simp only [i64_w, i32_w]; rw [c3b0]) | skip)
   by_cases c4 : (a0.size : Int) > 12
   ·rw [if_pos c4] at H
    have c4b0 : decide (12 < (a0.size : Int)) = true := decide_eq_true c4
    have c4b1 : decide (12 < a0.size) = true := decide_eq_true (by omega)
    clear c4
    have H' := Aside0.mk H
    clear H
    go_wp2
    go_meet
    case rel => exact ⟨_, (true), (by first | rfl | (simp; done) | (simp [*]; done)), H', ⟨by first | omega | exact Nat.le_refl _⟩, ⟨by repeat (first | (with_reducible first | exact HB.out | apply below_alloc | apply pw_below_drewN | apply below_drew1) | exact HB.out)⟩⟩
   ·rw [if_neg c4] at H
    have c4b0 : decide (12 < (a0.size : Int)) = false := decide_eq_false c4
    have c4b1 : decide (12 < a0.size) = false := decide_eq_false (by omega)
    clear c4
    by_cases c5 : 0 < (a0.size : Int)
    ·rw [if_pos c5] at H
     have c5b0 : decide (0 < (a0.size : Int)) = true := decide_eq_true c5
     have c5b1 : decide (0 < a0.size) = true := decide_eq_true (by omega)
     clear c5
     replace H := Option.bind_eq_some_iff.mp H
     obtain ⟨t103, A70, H⟩ := H
     replace H : (if t103 = true then ((truantref02_Key.f a0).bind fun t104 => (truantref02_Word.j0 k a0 t104)) else (truantref02_Word.j0 k a0 true)) = some r := H
     have A7 := Aside0.mk A70
     clear A70
     by_cases c8 : t103 = true
     ·subst c8
      have H1 : ((truantref02_Key.f a0).bind fun t104 => (truantref02_Word.j0 k a0 t104)) = some r := by rw [if_pos rfl] at H; exact H
      clear H
      have H := H1
      clear H1
      replace H := Option.bind_eq_some_iff.mp H
      obtain ⟨t104, A90, H⟩ := H
      replace H : (truantref02_Word.j0 k a0 t104) = some r := H
      have A9 := Aside0.mk A90
      clear A90
      have H' := Aside0.mk H
      clear H
      have p6 : 0 ≤ (0 : Int) := (by omega)
      have q6 : 0 < a0.size := (by have : (0 : Int) < (a0.size : Int) := of_decide_eq_true (by first | (with_reducible assumption) | assumption); omega)
      have hx6 : ∀ h : 0 < a0.size, ((a0[0]'h).toNat : Int) = bt a0 0 := bt_at a0 0
      clear p6
      have qi6 : (0 < (a0.size : Int)) = True := eq_true (of_decide_eq_true (by first | (with_reducible assumption) | assumption))
      replace q6 := eq_true q6
      go_wp2_with (first | (go_at_call 95; (with_reducible refine (truantref02_letter.calls (bt a0 0) true _ A7.out).mono ?_); rintro e w' ⟨rfl, ⟨nd, rfl⟩⟩) | (go_at_call 96; (with_reducible refine (truantref02_Key.calls a0 t104 _ A9.out).mono ?_); rintro e w10 ⟨rfl, hb⟩; have n0_ := Aside0.mk (below_step (by repeat (first | (with_reducible first | exact HB.out | apply below_alloc | apply pw_below_drewN | apply below_drew1) | exact HB.out)) hb); clear HB; have HB := n0_; clear n0_; (try clear hb); (try clear hb2); (try clear hk); (try clear hi)))
      go_meet
      case rel => exact ⟨_, (t104), (by first | rfl | (simp; done) | (simp [*]; done)), H', ⟨by first | omega | exact Nat.le_refl _⟩, ⟨by repeat (first | (with_reducible first | exact HB.out | apply below_alloc | apply pw_below_drewN | apply below_drew1) | exact HB.out)⟩⟩
     ·replace c8 := Bool.eq_false_iff.mpr c8
      subst c8
      have H1 : (truantref02_Word.j0 k a0 true) = some r := by rw [if_neg (show ¬ (false = true) by decide)] at H; exact H
      clear H
      have H := H1
      clear H1
      have H' := Aside0.mk H
      clear H
      have p6 : 0 ≤ (0 : Int) := (by omega)
      have q6 : 0 < a0.size := (by have : (0 : Int) < (a0.size : Int) := of_decide_eq_true (by first | (with_reducible assumption) | assumption); omega)
      have hx6 : ∀ h : 0 < a0.size, ((a0[0]'h).toNat : Int) = bt a0 0 := bt_at a0 0
      clear p6
      have qi6 : (0 < (a0.size : Int)) = True := eq_true (of_decide_eq_true (by first | (with_reducible assumption) | assumption))
      replace q6 := eq_true q6
      go_wp2_with (first | (go_at_call 95; (with_reducible refine (truantref02_letter.calls (bt a0 0) false _ A7.out).mono ?_); rintro e w' ⟨rfl, ⟨nd, rfl⟩⟩))
      go_meet
      case rel => exact ⟨_, (true), (by first | rfl | (simp; done) | (simp [*]; done)), H', ⟨by first | omega | exact Nat.le_refl _⟩, ⟨by repeat (first | (with_reducible first | exact HB.out | apply below_alloc | apply pw_below_drewN | apply below_drew1) | exact HB.out)⟩⟩
    ·rw [if_neg c5] at H
     exact absurd H (by simp)
 case rest =>
  clear HC2
  try clear p2
  try clear c3
  try clear c3b0
  try clear c3b1
  try clear c4
  try clear c4b0
  try clear c4b1
  try clear c5
  try clear c5b0
  try clear c5b1
  try clear p6
  try clear q6
  try clear hx6
  try clear qi6
  try clear c7
  try clear c8
  try clear p6
  try clear q6
  obtain ⟨kq, x21_1, rfl, HA, HJ1, HB⟩ := hcut
  cases kq with
  | zero => exact absurd HA.out (by simp [truantref02_Word.j0])
  | succ kj1 =>
   have H := HA.out
   clear HA
   simp only [truantref02_Word.j0] at H
   by_cases c11 : x21_1 = true
   ·subst c11
    have H1 : (some false) = some r := by rw [if_pos rfl] at H; exact H
    clear H
    have H := H1
    clear H1
    obtain rfl := Option.some.inj H
    go_wp2
    go_ret
    exact ⟨by first | rfl | (simp [errW_none, errW_some] <;> rfl) | (simp [*, errW_none, errW_some] <;> rfl), by repeat (first | (with_reducible first | exact HB.out | apply below_alloc | apply pw_below_drewN | apply below_drew1) | exact HB.out)⟩
   ·replace c11 := Bool.eq_false_iff.mpr c11
    subst c11
    have H1 : (truantref02_Word.l0 kj1 a0 0) = some r := by rw [if_neg (show ¬ (false = true) by decide)] at H; exact H
    clear H
    have H := H1
    clear H1
    have H' := Aside0.mk H
    clear H
    go_wp2
    go_loopg [3] kj1 (fun kq v3 w' => ∃ (x3_2 : Int), v3 = .int .i64 x3_2 ∧ Aside0 (truantref02_Word.l0 kq a0 x3_2 = some r) ∧ Aside0 (kq ≤ kj1) ∧ Aside0 (Below w.heap.size w w'))
    case atStart => exact ⟨(0), (by first | rfl | (simp; done) | (simp [*]; done)), H', ⟨Nat.le_refl _⟩, ⟨by repeat (first | (with_reducible first | exact HB.out | apply below_alloc | apply pw_below_drewN | apply below_drew1) | exact HB.out)⟩⟩
    case round =>
     clear H'
     try clear c1
     try clear p2
     try clear c3
     try clear c3b0
     try clear c3b1
     try clear c4
     try clear c4b0
     try clear c4b1
     try clear c5
     try clear c5b0
     try clear c5b1
     try clear p6
     try clear q6
     try clear hx6
     try clear qi6
     try clear c7
     try clear c8
     try clear c11
     try clear p2
     try clear p6
     try clear q6
     obtain ⟨x3_2, rfl, HA, HK2, HB⟩ := hrel
     cases gk with
     | zero => exact absurd HA.out (by simp [truantref02_Word.l0])
     | succ k2 =>
      have H := HA.out
      clear HA
      simp only [truantref02_Word.l0] at H
      by_cases c12 : x3_2 < (a0.size : Int)
      ·rw [if_pos c12] at H
       have c12b0 : decide (x3_2 < (a0.size : Int)) = true := decide_eq_true c12
       clear c12
       by_cases c13 : 0 ≤ x3_2
       ·rw [if_pos c13] at H
        have c13b0 : decide (0 ≤ x3_2) = true := decide_eq_true c13
        clear c13
        replace H := Option.bind_eq_some_iff.mp H
        obtain ⟨t105, A150, H⟩ := H
        replace H : (if t105 = true then (truantref02_Word.l0 k2 a0 (wrap64 (x3_2 + 1))) else ((truantref02_digit.f (bt a0 x3_2)).bind fun t106 => (if t106 = true then (truantref02_Word.l0 k2 a0 (wrap64 (x3_2 + 1))) else (some false)))) = some r := H
        have A15 := Aside0.mk A150
        clear A150
        by_cases c16 : t105 = true
        ·subst c16
         have H1 : (truantref02_Word.l0 k2 a0 (wrap64 (x3_2 + 1))) = some r := by rw [if_pos rfl] at H; exact H
         clear H
         have H := H1
         clear H1
         have H' := Aside0.mk H
         clear H
         have p14 : 0 ≤ (x3_2 : Int) := of_decide_eq_true (by first | (with_reducible assumption) | assumption)
         have q14 : x3_2 < (a0.size : Int) := of_decide_eq_true (by first | (with_reducible assumption) | assumption)
         have hx14 := bt_at a0 x3_2
         replace p14 := eq_true p14
         replace q14 := eq_true q14
         go_wp2_with (first | ((with_reducible refine gate_callee (f := 95) rfl ?_); refine goesL_ (some 31) rfl rfl Try.func95 (by kernel_rfl) rfl #[.int .u8 (bt a0 x3_2)] rfl (by (try simp only [List.map_toArray, List.map_cons, List.map_nil]); first | done | rfl | (simp only [List.length_drop, List.length_take]; rfl)) ?_; (with_reducible refine (truantref02_letter.calls (bt a0 x3_2) true _ A15.out).mono ?_); rintro e w' ⟨rfl, ⟨nd, rfl⟩⟩; refine ⟨_, rfl, ?_⟩))
         go_roundg k2
         case measure => have := HJ1.out; have := HK2.out; omega
         case rel => exact ⟨(wrap64 (x3_2 + 1)), (by first | rfl | (simp; done) | (simp [*]; done)), H', ⟨by have := HJ1.out; have := HK2.out; omega⟩, ⟨by repeat (first | (with_reducible first | exact HB.out | apply below_alloc | apply pw_below_drewN | apply below_drew1) | exact HB.out)⟩⟩
        ·replace c16 := Bool.eq_false_iff.mpr c16
         subst c16
         have H1 : ((truantref02_digit.f (bt a0 x3_2)).bind fun t106 => (if t106 = true then (truantref02_Word.l0 k2 a0 (wrap64 (x3_2 + 1))) else (some false))) = some r := by rw [if_neg (show ¬ (false = true) by decide)] at H; exact H
         clear H
         have H := H1
         clear H1
         replace H := Option.bind_eq_some_iff.mp H
         obtain ⟨t106, A180, H⟩ := H
         replace H : (if t106 = true then (truantref02_Word.l0 k2 a0 (wrap64 (x3_2 + 1))) else (some false)) = some r := H
         have A18 := Aside0.mk A180
         clear A180
         by_cases c19 : t106 = true
         ·subst c19
          have H1 : (truantref02_Word.l0 k2 a0 (wrap64 (x3_2 + 1))) = some r := by rw [if_pos rfl] at H; exact H
          clear H
          have H := H1
          clear H1
          have H' := Aside0.mk H
          clear H
          have p14 : 0 ≤ (x3_2 : Int) := of_decide_eq_true (by first | (with_reducible assumption) | assumption)
          have q14 : x3_2 < (a0.size : Int) := of_decide_eq_true (by first | (with_reducible assumption) | assumption)
          have hx14 := bt_at a0 x3_2
          replace p14 := eq_true p14
          replace q14 := eq_true q14
          go_wp2_with (first | ((with_reducible refine gate_callee (f := 95) rfl ?_); refine goesL_ (some 31) rfl rfl Try.func95 (by kernel_rfl) rfl #[.int .u8 (bt a0 x3_2)] rfl (by (try simp only [List.map_toArray, List.map_cons, List.map_nil]); first | done | rfl | (simp only [List.length_drop, List.length_take]; rfl)) ?_; (with_reducible refine (truantref02_letter.calls (bt a0 x3_2) false _ A15.out).mono ?_); rintro e w' ⟨rfl, ⟨nd, rfl⟩⟩; refine ⟨_, rfl, ?_⟩; have p17 : 0 ≤ (x3_2 : Int) := of_decide_eq_true (by first | (with_reducible assumption) | assumption); have q17 : x3_2 < (a0.size : Int) := of_decide_eq_true (by first | (with_reducible assumption) | assumption); have hx17 := bt_at a0 x3_2; replace p17 := eq_true p17; replace q17 := eq_true q17) | (go_at_call 97; (with_reducible refine (truantref02_digit.calls (bt a0 x3_2) true _ A18.out).mono ?_); rintro e w' ⟨rfl, ⟨nd, rfl⟩⟩))
          go_roundg k2
          case measure => have := HJ1.out; have := HK2.out; omega
          case rel => exact ⟨(wrap64 (x3_2 + 1)), (by first | rfl | (simp; done) | (simp [*]; done)), H', ⟨by have := HJ1.out; have := HK2.out; omega⟩, ⟨by repeat (first | (with_reducible first | exact HB.out | apply below_alloc | apply pw_below_drewN | apply below_drew1) | exact HB.out)⟩⟩
         ·replace c19 := Bool.eq_false_iff.mpr c19
          subst c19
          have H1 : (some false) = some r := by rw [if_neg (show ¬ (false = true) by decide)] at H; exact H
          clear H
          have H := H1
          clear H1
          obtain rfl := Option.some.inj H
          have p14 : 0 ≤ (x3_2 : Int) := of_decide_eq_true (by first | (with_reducible assumption) | assumption)
          have q14 : x3_2 < (a0.size : Int) := of_decide_eq_true (by first | (with_reducible assumption) | assumption)
          have hx14 := bt_at a0 x3_2
          replace p14 := eq_true p14
          replace q14 := eq_true q14
          go_wp2_with (first | ((with_reducible refine gate_callee (f := 95) rfl ?_); refine goesL_ (some 31) rfl rfl Try.func95 (by kernel_rfl) rfl #[.int .u8 (bt a0 x3_2)] rfl (by (try simp only [List.map_toArray, List.map_cons, List.map_nil]); first | done | rfl | (simp only [List.length_drop, List.length_take]; rfl)) ?_; (with_reducible refine (truantref02_letter.calls (bt a0 x3_2) false _ A15.out).mono ?_); rintro e w' ⟨rfl, ⟨nd, rfl⟩⟩; refine ⟨_, rfl, ?_⟩; have p17 : 0 ≤ (x3_2 : Int) := of_decide_eq_true (by first | (with_reducible assumption) | assumption); have q17 : x3_2 < (a0.size : Int) := of_decide_eq_true (by first | (with_reducible assumption) | assumption); have hx17 := bt_at a0 x3_2; replace p17 := eq_true p17; replace q17 := eq_true q17) | (go_at_call 97; (with_reducible refine (truantref02_digit.calls (bt a0 x3_2) false _ A18.out).mono ?_); rintro e w' ⟨rfl, ⟨nd, rfl⟩⟩))
          go_ret
          exact ⟨by first | rfl | (simp [errW_none, errW_some] <;> rfl) | (simp [*, errW_none, errW_some] <;> rfl), by repeat (first | (with_reducible first | exact HB.out | apply below_alloc | apply pw_below_drewN | apply below_drew1) | exact HB.out)⟩
       ·rw [if_neg c13] at H
        exact absurd H (by simp)
      ·rw [if_neg c12] at H
       have c12b0 : decide (x3_2 < (a0.size : Int)) = false := decide_eq_false c12
       clear c12
       obtain rfl := Option.some.inj H
       go_wp2
       go_ret
       exact ⟨by first | rfl | (simp [errW_none, errW_some] <;> rfl) | (simp [*, errW_none, errW_some] <;> rfl), by repeat (first | (with_reducible first | exact HB.out | apply below_alloc | apply pw_below_drewN | apply below_drew1) | exact HB.out)⟩
/-! ### truantref03_Check: function 16 -/
mutual
def truantref03_Check.l0 : Nat → List (S43) → Int → Option (Int × Int)
 | 0, _, _ => none
 | k + 1, x0, x4 => if x4 < (x0.length : Int) then (if 0 ≤ x4 then ((truantref02_Word.f k ((rd_T43 x0 x4).f0)).bind fun t109 => (if t109 = true then ((truantref03_Find.f k x0 ((rd_T43 x0 x4).f0)).bind fun t110 => (if t110 < x4 then (some (x4, 6)) else (if (((rd_T43 x0 x4).f1).length : Int) > 8 then (some (x4, 4)) else (truantref03_Check.l1 k x0 x4 0 ((rd_T43 x0 x4).f0) ((rd_T43 x0 x4).f1))))) else (some (x4, 1)))) else (none)) else (some (0, 0))
def truantref03_Check.l1 : Nat → List (S43) → Int → Int → ByteArray → List (S48) → Option (Int × Int)
 | 0, _, _, _, _, _ => none
 | k + 1, x0, x4, x6, x109000, x109001 => if x6 < (x109001.length : Int) then (if 0 ≤ x6 then ((truantref02_Word.f k ((rd_T48 x109001 x6).f0)).bind fun t112 => (if t112 = true then (truantref03_Check.l2 k x0 x4 x6 0 x109000 x109001) else (some (x4, 1)))) else (none)) else (truantref03_Check.l0 k x0 (wrap64 (x4 + 1)))
def truantref03_Check.l2 : Nat → List (S43) → Int → Int → Int → ByteArray → List (S48) → Option (Int × Int)
 | 0, _, _, _, _, _, _ => none
 | k + 1, x0, x4, x6, x7, x109000, x109001 => if x7 < x6 then (if 0 ≤ x7 then (if x7 < (x109001.length : Int) then (if 0 ≤ x6 then (if x6 < (x109001.length : Int) then (if ((rd_T48 x109001 x7).f0).toList = ((rd_T48 x109001 x6).f0).toList then (some (x4, 6)) else (truantref03_Check.l2 k x0 x4 x6 (wrap64 (x7 + 1)) x109000 x109001)) else (none)) else (none)) else (none)) else (none)) else (if 0 ≤ x6 then (if x6 < (x109001.length : Int) then ((truantref03_Is.f k x0 ((rd_T48 x109001 x6).f1)).bind fun t116 => (if t116 = true then (truantref03_Check.l1 k x0 x4 (wrap64 (x6 + 1)) x109000 x109001) else (some (x4, 7)))) else (none)) else (none))
end
def truantref03_Check.f (k : Nat) (l0 : List (S43)) : Option (Int × Int) := if (l0.length : Int) > 12 then (some (0, 4)) else (truantref03_Check.l0 k l0 0)
theorem truantref03_Check.mono_l : ∀ k, (∀ y0 y1, LeO (truantref03_Check.l0 k y0 y1) (truantref03_Check.l0 (k + 1) y0 y1)) ∧ (∀ y0 y1 y2 y3 y4, LeO (truantref03_Check.l1 k y0 y1 y2 y3 y4) (truantref03_Check.l1 (k + 1) y0 y1 y2 y3 y4)) ∧ (∀ y0 y1 y2 y3 y4 y5, LeO (truantref03_Check.l2 k y0 y1 y2 y3 y4 y5) (truantref03_Check.l2 (k + 1) y0 y1 y2 y3 y4 y5))
 | 0 => ⟨fun _ _ r h => by simp [truantref03_Check.l0] at h, fun _ _ _ _ _ r h => by simp [truantref03_Check.l1] at h, fun _ _ _ _ _ _ r h => by simp [truantref03_Check.l2] at h⟩
 | k + 1 => by
  obtain ⟨ih0, ih1, ih2⟩ := truantref03_Check.mono_l k
  refine ⟨?_, ?_, ?_⟩
  ·intro y0 y1
   unfold truantref03_Check.l0
   repeat' first
   | (with_reducible exact ih0 _ _)
   | (with_reducible exact ih1 _ _ _ _ _)
   | (with_reducible exact ih2 _ _ _ _ _ _)
   | (with_reducible exact truantref02_Word.mono _ _)
   | (with_reducible exact truantref03_Find.mono _ _ _)
   | (with_reducible exact truantref03_Is.mono _ _ _)
   | (with_reducible exact LeO.refl _)
   | (with_reducible exact LeO.none _)
   | (with_reducible refine LeO.ite ?_ ?_)
   | (with_reducible refine LeO.bind ?_ (fun _ => ?_))
   | exact ih0 _ _
   | exact ih1 _ _ _ _ _
   | exact ih2 _ _ _ _ _ _
   | exact truantref02_Word.mono _ _
   | exact truantref03_Find.mono _ _ _
   | exact truantref03_Is.mono _ _ _
   | exact LeO.none _
   | refine LeO.ite ?_ ?_
   | refine LeO.bind ?_ (fun _ => ?_)
  ·intro y0 y1 y2 y3 y4
   unfold truantref03_Check.l1
   repeat' first
   | (with_reducible exact ih0 _ _)
   | (with_reducible exact ih1 _ _ _ _ _)
   | (with_reducible exact ih2 _ _ _ _ _ _)
   | (with_reducible exact truantref02_Word.mono _ _)
   | (with_reducible exact truantref03_Find.mono _ _ _)
   | (with_reducible exact truantref03_Is.mono _ _ _)
   | (with_reducible exact LeO.refl _)
   | (with_reducible exact LeO.none _)
   | (with_reducible refine LeO.ite ?_ ?_)
   | (with_reducible refine LeO.bind ?_ (fun _ => ?_))
   | exact ih0 _ _
   | exact ih1 _ _ _ _ _
   | exact ih2 _ _ _ _ _ _
   | exact truantref02_Word.mono _ _
   | exact truantref03_Find.mono _ _ _
   | exact truantref03_Is.mono _ _ _
   | exact LeO.none _
   | refine LeO.ite ?_ ?_
   | refine LeO.bind ?_ (fun _ => ?_)
  ·intro y0 y1 y2 y3 y4 y5
   unfold truantref03_Check.l2
   repeat' first
   | (with_reducible exact ih0 _ _)
   | (with_reducible exact ih1 _ _ _ _ _)
   | (with_reducible exact ih2 _ _ _ _ _ _)
   | (with_reducible exact truantref02_Word.mono _ _)
   | (with_reducible exact truantref03_Find.mono _ _ _)
   | (with_reducible exact truantref03_Is.mono _ _ _)
   | (with_reducible exact LeO.refl _)
   | (with_reducible exact LeO.none _)
   | (with_reducible refine LeO.ite ?_ ?_)
   | (with_reducible refine LeO.bind ?_ (fun _ => ?_))
   | exact ih0 _ _
   | exact ih1 _ _ _ _ _
   | exact ih2 _ _ _ _ _ _
   | exact truantref02_Word.mono _ _
   | exact truantref03_Find.mono _ _ _
   | exact truantref03_Is.mono _ _ _
   | exact LeO.none _
   | refine LeO.ite ?_ ?_
   | refine LeO.bind ?_ (fun _ => ?_)
theorem truantref03_Check.mono : ∀ a0 k, LeO (truantref03_Check.f k a0) (truantref03_Check.f (k + 1) a0) := by
 intro a0 k
 obtain ⟨ih0, ih1, ih2⟩ := truantref03_Check.mono_l k
 unfold truantref03_Check.f
 repeat' first
   | (with_reducible exact ih0 _ _)
   | (with_reducible exact ih1 _ _ _ _ _)
   | (with_reducible exact ih2 _ _ _ _ _ _)
   | (with_reducible exact truantref02_Word.mono _ _)
   | (with_reducible exact truantref03_Find.mono _ _ _)
   | (with_reducible exact truantref03_Is.mono _ _ _)
   | (with_reducible exact LeO.refl _)
   | (with_reducible exact LeO.none _)
   | (with_reducible refine LeO.ite ?_ ?_)
   | (with_reducible refine LeO.bind ?_ (fun _ => ?_))
   | exact ih0 _ _
   | exact ih1 _ _ _ _ _
   | exact ih2 _ _ _ _ _ _
   | exact truantref02_Word.mono _ _
   | exact truantref03_Find.mono _ _ _
   | exact truantref03_Is.mono _ _ _
   | exact LeO.none _
   | refine LeO.ite ?_ ?_
   | refine LeO.bind ?_ (fun _ => ?_)
set_option maxHeartbeats 8000000 in
set_option maxRecDepth 100000 in
theorem truantref03_Check.calls (k : Nat) (A0 : Option Addr) (c0 : Nat) (l0 : List (S43)) (r1 : Int) (r2 : Int) (w : World) (hr0 : Kd.C k43 w A0 l0.length l0) (hc0 : l0.length ≤ c0) (h : truantref03_Check.f k l0 = some (r1, r2)) :
  Calls Try.prog 16 #[.slice A0 l0.length c0] w fun e w' => e = .returned (.tuple #[.int .i64 r1, .int .i64 r2]) ∧ Below w.heap.size w w' := by
 have hu43 := Try.underlying43
 have HR0 := Aside0.mk hr0
 have HC0 := Aside0.mk hc0
 clear hr0 hc0
 have HB := Aside0.mk (Below.refl w.heap.size w)
 have H : (if (l0.length : Int) > 12 then (some (0, 4)) else (truantref03_Check.l0 k l0 0)) = some (r1, r2) := h
 clear h
 by_cases c2 : (l0.length : Int) > 12
 ·rw [if_pos c2] at H
  have c2b0 : decide (12 < (l0.length : Int)) = true := decide_eq_true c2
  have c2b1 : decide (12 < l0.length) = true := decide_eq_true (by omega)
  clear c2
  simp only [Option.some.injEq, Prod.mk.injEq] at H
  obtain ⟨rfl, rfl⟩ := H
  go_enter Try.func16, Try.ntmps16
  go_wp2
  repeat (go_quiet (fail); try go_wp2)
  go_ret2
  exact ⟨by first | rfl | (simp [errW_none, errW_some] <;> rfl) | (simp [*, errW_none, errW_some] <;> rfl), by repeat (first | (with_reducible first | exact HB.out | apply below_alloc | apply pw_below_drewN | apply below_drew1) | exact HB.out)⟩
 ·rw [if_neg c2] at H
  have c2b0 : decide (12 < (l0.length : Int)) = false := decide_eq_false c2
  have c2b1 : decide (12 < l0.length) = false := decide_eq_false (by omega)
  clear c2
  have H' := Aside0.mk H
  clear H
  go_enter Try.func16, Try.ntmps16
  go_wp2
  repeat (go_quiet (fail); try go_wp2)
  go_loopg [4] k (fun kq v4 w' => ∃ (x4_1 : Int), v4 = .int .i64 x4_1 ∧ Aside0 (truantref03_Check.l0 kq l0 x4_1 = some (r1, r2)) ∧ Aside0 (kq ≤ k) ∧ Aside0 (Below w.heap.size w w'))
  case atStart => exact ⟨(0), (by first | rfl | (simp; done) | (simp [*]; done)), H', ⟨Nat.le_refl _⟩, ⟨by repeat (first | (with_reducible first | exact HB.out | apply below_alloc | apply pw_below_drewN | apply below_drew1) | exact HB.out)⟩⟩
  case round =>
   clear H'
   try clear c1
   try clear c2
   try clear c2b0
   try clear c2b1
   try clear p2
   obtain ⟨x4_1, rfl, HA, HK1, HB⟩ := hrel
   cases gk with
   | zero => exact absurd HA.out (by simp [truantref03_Check.l0])
   | succ k1 =>
    have H := HA.out
    clear HA
    simp only [truantref03_Check.l0] at H
    by_cases c3 : x4_1 < (l0.length : Int)
    ·rw [if_pos c3] at H
     have c3b0 : decide (x4_1 < (l0.length : Int)) = true := decide_eq_true c3
     clear c3
     by_cases c4 : 0 ≤ x4_1
     ·rw [if_pos c4] at H
      have c4b0 : decide (0 ≤ x4_1) = true := decide_eq_true c4
      clear c4
      replace H := Option.bind_eq_some_iff.mp H
      obtain ⟨t109, A50, H⟩ := H
      replace H : (if t109 = true then ((truantref03_Find.f k1 l0 ((rd_T43 l0 x4_1).f0)).bind fun t110 => (if t110 < x4_1 then (some (x4_1, 6)) else (if (((rd_T43 l0 x4_1).f1).length : Int) > 8 then (some (x4_1, 4)) else (truantref03_Check.l1 k1 l0 x4_1 0 ((rd_T43 l0 x4_1).f0) ((rd_T43 l0 x4_1).f1))))) else (some (x4_1, 1))) = some (r1, r2) := H
      have A5 := Aside0.mk A50
      clear A50
      by_cases c6 : t109 = true
      ·subst c6
       have H1 : ((truantref03_Find.f k1 l0 ((rd_T43 l0 x4_1).f0)).bind fun t110 => (if t110 < x4_1 then (some (x4_1, 6)) else (if (((rd_T43 l0 x4_1).f1).length : Int) > 8 then (some (x4_1, 4)) else (truantref03_Check.l1 k1 l0 x4_1 0 ((rd_T43 l0 x4_1).f0) ((rd_T43 l0 x4_1).f1))))) = some (r1, r2) := by rw [if_pos rfl] at H; exact H
       clear H
       have H := H1
       clear H1
       replace H := Option.bind_eq_some_iff.mp H
       obtain ⟨t110, A70, H⟩ := H
       replace H : (if t110 < x4_1 then (some (x4_1, 6)) else (if (((rd_T43 l0 x4_1).f1).length : Int) > 8 then (some (x4_1, 4)) else (truantref03_Check.l1 k1 l0 x4_1 0 ((rd_T43 l0 x4_1).f0) ((rd_T43 l0 x4_1).f1)))) = some (r1, r2) := H
       have A7 := Aside0.mk A70
       clear A70
       by_cases c8 : t110 < x4_1
       ·rw [if_pos c8] at H
        have c8b0 : decide (t110 < x4_1) = true := decide_eq_true c8
        clear c8
        simp only [Option.some.injEq, Prod.mk.injEq] at H
        obtain ⟨rfl, rfl⟩ := H
        have p107 : 0 ≤ (x4_1 : Int) := of_decide_eq_true (by first | (with_reducible assumption) | assumption)
        have q107 : x4_1 < (l0.length : Int) := of_decide_eq_true (by first | (with_reducible assumption) | assumption)
        obtain ⟨ad107, A107_1, c107_1, e107, hx107_0, hx107_1, hl107_1, hi107_1⟩ := at_T43 HR0.out x4_1 p107 q107
        cases e107
        replace hx107_0 := (HB.out.cell (World.block_lt_of_cell? w _ hx107_0)).trans hx107_0
        replace hx107_1 := (HB.out.cell (World.block_lt_of_cell? w _ hx107_1)).trans hx107_1
        have HR107_1 := Aside0.mk hi107_1
        have HC107_1 := Aside0.mk hl107_1
        clear hi107_1 hl107_1
        replace p107 := eq_true p107
        replace q107 := eq_true q107
        go_wp2_with (first | ((with_reducible refine gate_dst (N := 5) rfl ?_); refine box_event ?hg (N := 5) ?hd (cs := #[.string (⟨#[]⟩ : ByteArray), .slice none 0 0]) (t := 43) ?hr ?_; (case hd => rfl); (case hg => rfl); (case hr => first | (go_simp; done) | (go_simp; rfl)); intro gb108 hg w9 hbox hb; have n0_ := Aside0.mk (below_step (by repeat (first | (with_reducible first | exact HB.out | apply below_alloc | apply pw_below_drewN | apply below_drew1) | exact HB.out)) hb); have n1_ := Aside0.mk (hbox); have n2_ := Aside0.mk ((by rw [hg]; exact (below_size (by repeat (first | (with_reducible first | exact HB.out | apply below_alloc | apply pw_below_drewN | apply below_drew1) | exact HB.out))) : w.heap.size ≤ gb108)); have n3_ := Aside0.mk ((by rw [hg]; exact (below_size (by repeat (first | (with_reducible first | exact HB.out | apply below_alloc | apply pw_below_drewN | apply below_drew1) | exact HB.out))) : w.heap.size ≤ gb108)); clear HB; have HB := n0_; have BK108 := n1_; have GW108 := n2_; have GE108 := n3_; clear n0_ n1_ n2_ n3_; clear hb hbox hg; have hcz10_0 : w9.cell? ⟨gb108, 0, none⟩ = some (.string (⟨#[]⟩ : ByteArray)) := (blk_cell BK108.out 0).trans rfl; have hcz10_1 : w9.cell? ⟨gb108, 1, none⟩ = some (.slice none 0 0) := (blk_cell BK108.out 1).trans rfl; have hfz10_0 := blk_frozen BK108.out 0; have hfz10_1 := blk_frozen BK108.out 1) | (go_at_call 70; (with_reducible refine (truantref02_Word.calls k1 ((rd_T43 l0 x4_1).f0) true _ A5.out).mono ?_); rintro e w11 ⟨rfl, hb⟩; have n0_ := Aside0.mk (blk_below (g := gb108) (o := .cells #[.string ((rd_T43 l0 x4_1).f0), .slice A107_1 ((rd_T43 l0 x4_1).f1).length c107_1] 43 (0, 0)) (by (with_reducible repeat (first | refine blk_drewN ?_ _ | refine blk_drew ?_ | refine blk_alloc ?_ _)); refine blk_put (cs := #[.string ((rd_T43 l0 x4_1).f0), .slice none 0 0]) ?_ 1 _ rfl; (with_reducible repeat (first | refine blk_drewN ?_ _ | refine blk_drew ?_ | refine blk_alloc ?_ _)); refine blk_put (cs := #[.string (⟨#[]⟩ : ByteArray), .slice none 0 0]) ?_ 0 _ rfl; (with_reducible repeat (first | refine blk_drewN ?_ _ | refine blk_drew ?_ | refine blk_alloc ?_ _)); exact BK108.out) hb); have n1_ := Aside0.mk (below_step (by repeat (first | (with_reducible first | exact HB.out | apply below_alloc | apply pw_below_drewN | apply below_drew1 | refine below_set ?_ GE108.out) | exact HB.out)) hb); clear BK108; clear HB; have BK108 := n0_; have HB := n1_; clear n0_ n1_; (try clear hb); (try clear hb2); (try clear hk); (try clear hi); have hcz12_0 : w11.cell? ⟨gb108, 0, none⟩ = some (.string ((rd_T43 l0 x4_1).f0)) := (blk_cell BK108.out 0).trans rfl; have hcz12_1 : w11.cell? ⟨gb108, 1, none⟩ = some (.slice A107_1 ((rd_T43 l0 x4_1).f1).length c107_1) := (blk_cell BK108.out 1).trans rfl; have hfz12_0 := blk_frozen BK108.out 0; have hfz12_1 := blk_frozen BK108.out 1) | (go_at_call 19; (with_reducible refine (truantref03_Find.calls k1 _ _ l0 ((rd_T43 l0 x4_1).f0) t110 _ ?side1 ?side2 A7.out).mono ?_); (case side1 => repeat (first | exact (Kd.C_below HR0.out HB.out) | (with_reducible refine Kd.C_alloc ?_ _) | (with_reducible refine Kd.C_drewN ?_ _) | (with_reducible refine Kd.C_drew ?_))); (case side2 => exact HC0.out); rintro e w' ⟨rfl, ⟨nd, rfl⟩⟩; (try first | exact ⟨rfl, _, World.drewN_drewN _ _ _⟩ | exact ⟨rfl, _, Eq.trans (World.drewN_drewN _ _ _) (congrArg (World.drewN _) (Nat.add_assoc _ _ _))⟩)))
        repeat (go_quiet (first | ((with_reducible refine gate_dst (N := 5) rfl ?_); refine box_event ?hg (N := 5) ?hd (cs := #[.string (⟨#[]⟩ : ByteArray), .slice none 0 0]) (t := 43) ?hr ?_; (case hd => rfl); (case hg => rfl); (case hr => first | (go_simp; done) | (go_simp; rfl)); intro gb108 hg w9 hbox hb; have n0_ := Aside0.mk (below_step (by repeat (first | (with_reducible first | exact HB.out | apply below_alloc | apply pw_below_drewN | apply below_drew1) | exact HB.out)) hb); have n1_ := Aside0.mk (hbox); have n2_ := Aside0.mk ((by rw [hg]; exact (below_size (by repeat (first | (with_reducible first | exact HB.out | apply below_alloc | apply pw_below_drewN | apply below_drew1) | exact HB.out))) : w.heap.size ≤ gb108)); have n3_ := Aside0.mk ((by rw [hg]; exact (below_size (by repeat (first | (with_reducible first | exact HB.out | apply below_alloc | apply pw_below_drewN | apply below_drew1) | exact HB.out))) : w.heap.size ≤ gb108)); clear HB; have HB := n0_; have BK108 := n1_; have GW108 := n2_; have GE108 := n3_; clear n0_ n1_ n2_ n3_; clear hb hbox hg; have hcz10_0 : w9.cell? ⟨gb108, 0, none⟩ = some (.string (⟨#[]⟩ : ByteArray)) := (blk_cell BK108.out 0).trans rfl; have hcz10_1 : w9.cell? ⟨gb108, 1, none⟩ = some (.slice none 0 0) := (blk_cell BK108.out 1).trans rfl; have hfz10_0 := blk_frozen BK108.out 0; have hfz10_1 := blk_frozen BK108.out 1) | (go_at_call 70; (with_reducible refine (truantref02_Word.calls k1 ((rd_T43 l0 x4_1).f0) true _ A5.out).mono ?_); clear A5; rintro e w11 ⟨rfl, hb⟩; have n0_ := Aside0.mk (blk_below (g := gb108) (o := .cells #[.string ((rd_T43 l0 x4_1).f0), .slice A107_1 ((rd_T43 l0 x4_1).f1).length c107_1] 43 (0, 0)) (by (with_reducible repeat (first | refine blk_drewN ?_ _ | refine blk_drew ?_ | refine blk_alloc ?_ _)); refine blk_put (cs := #[.string ((rd_T43 l0 x4_1).f0), .slice none 0 0]) ?_ 1 _ rfl; (with_reducible repeat (first | refine blk_drewN ?_ _ | refine blk_drew ?_ | refine blk_alloc ?_ _)); refine blk_put (cs := #[.string (⟨#[]⟩ : ByteArray), .slice none 0 0]) ?_ 0 _ rfl; (with_reducible repeat (first | refine blk_drewN ?_ _ | refine blk_drew ?_ | refine blk_alloc ?_ _)); exact BK108.out) hb); have n1_ := Aside0.mk (below_step (by repeat (first | (with_reducible first | exact HB.out | apply below_alloc | apply pw_below_drewN | apply below_drew1 | refine below_set ?_ GE108.out) | exact HB.out)) hb); clear BK108; clear HB; have BK108 := n0_; have HB := n1_; clear n0_ n1_; (try clear hb); (try clear hb2); (try clear hk); (try clear hi); have hcz12_0 : w11.cell? ⟨gb108, 0, none⟩ = some (.string ((rd_T43 l0 x4_1).f0)) := (blk_cell BK108.out 0).trans rfl; have hcz12_1 : w11.cell? ⟨gb108, 1, none⟩ = some (.slice A107_1 ((rd_T43 l0 x4_1).f1).length c107_1) := (blk_cell BK108.out 1).trans rfl; have hfz12_0 := blk_frozen BK108.out 0; have hfz12_1 := blk_frozen BK108.out 1) | (go_at_call 19; (with_reducible refine (truantref03_Find.calls k1 _ _ l0 ((rd_T43 l0 x4_1).f0) t110 _ ?side1 ?side2 A7.out).mono ?_); clear A7; (case side1 => repeat (first | exact (Kd.C_below HR0.out HB.out) | (with_reducible refine Kd.C_alloc ?_ _) | (with_reducible refine Kd.C_drewN ?_ _) | (with_reducible refine Kd.C_drew ?_))); (case side2 => exact HC0.out); rintro e w' ⟨rfl, ⟨nd, rfl⟩⟩; (try first | exact ⟨rfl, _, World.drewN_drewN _ _ _⟩ | exact ⟨rfl, _, Eq.trans (World.drewN_drewN _ _ _) (congrArg (World.drewN _) (Nat.add_assoc _ _ _))⟩))); try go_wp2_with (first | ((with_reducible refine gate_dst (N := 5) rfl ?_); refine box_event ?hg (N := 5) ?hd (cs := #[.string (⟨#[]⟩ : ByteArray), .slice none 0 0]) (t := 43) ?hr ?_; (case hd => rfl); (case hg => rfl); (case hr => first | (go_simp; done) | (go_simp; rfl)); intro gb108 hg w9 hbox hb; have n0_ := Aside0.mk (below_step (by repeat (first | (with_reducible first | exact HB.out | apply below_alloc | apply pw_below_drewN | apply below_drew1) | exact HB.out)) hb); have n1_ := Aside0.mk (hbox); have n2_ := Aside0.mk ((by rw [hg]; exact (below_size (by repeat (first | (with_reducible first | exact HB.out | apply below_alloc | apply pw_below_drewN | apply below_drew1) | exact HB.out))) : w.heap.size ≤ gb108)); have n3_ := Aside0.mk ((by rw [hg]; exact (below_size (by repeat (first | (with_reducible first | exact HB.out | apply below_alloc | apply pw_below_drewN | apply below_drew1) | exact HB.out))) : w.heap.size ≤ gb108)); clear HB; have HB := n0_; have BK108 := n1_; have GW108 := n2_; have GE108 := n3_; clear n0_ n1_ n2_ n3_; clear hb hbox hg; have hcz10_0 : w9.cell? ⟨gb108, 0, none⟩ = some (.string (⟨#[]⟩ : ByteArray)) := (blk_cell BK108.out 0).trans rfl; have hcz10_1 : w9.cell? ⟨gb108, 1, none⟩ = some (.slice none 0 0) := (blk_cell BK108.out 1).trans rfl; have hfz10_0 := blk_frozen BK108.out 0; have hfz10_1 := blk_frozen BK108.out 1) | (go_at_call 70; (with_reducible refine (truantref02_Word.calls k1 ((rd_T43 l0 x4_1).f0) true _ A5.out).mono ?_); clear A5; rintro e w11 ⟨rfl, hb⟩; have n0_ := Aside0.mk (blk_below (g := gb108) (o := .cells #[.string ((rd_T43 l0 x4_1).f0), .slice A107_1 ((rd_T43 l0 x4_1).f1).length c107_1] 43 (0, 0)) (by (with_reducible repeat (first | refine blk_drewN ?_ _ | refine blk_drew ?_ | refine blk_alloc ?_ _)); refine blk_put (cs := #[.string ((rd_T43 l0 x4_1).f0), .slice none 0 0]) ?_ 1 _ rfl; (with_reducible repeat (first | refine blk_drewN ?_ _ | refine blk_drew ?_ | refine blk_alloc ?_ _)); refine blk_put (cs := #[.string (⟨#[]⟩ : ByteArray), .slice none 0 0]) ?_ 0 _ rfl; (with_reducible repeat (first | refine blk_drewN ?_ _ | refine blk_drew ?_ | refine blk_alloc ?_ _)); exact BK108.out) hb); have n1_ := Aside0.mk (below_step (by repeat (first | (with_reducible first | exact HB.out | apply below_alloc | apply pw_below_drewN | apply below_drew1 | refine below_set ?_ GE108.out) | exact HB.out)) hb); clear BK108; clear HB; have BK108 := n0_; have HB := n1_; clear n0_ n1_; (try clear hb); (try clear hb2); (try clear hk); (try clear hi); have hcz12_0 : w11.cell? ⟨gb108, 0, none⟩ = some (.string ((rd_T43 l0 x4_1).f0)) := (blk_cell BK108.out 0).trans rfl; have hcz12_1 : w11.cell? ⟨gb108, 1, none⟩ = some (.slice A107_1 ((rd_T43 l0 x4_1).f1).length c107_1) := (blk_cell BK108.out 1).trans rfl; have hfz12_0 := blk_frozen BK108.out 0; have hfz12_1 := blk_frozen BK108.out 1) | (go_at_call 19; (with_reducible refine (truantref03_Find.calls k1 _ _ l0 ((rd_T43 l0 x4_1).f0) t110 _ ?side1 ?side2 A7.out).mono ?_); clear A7; (case side1 => repeat (first | exact (Kd.C_below HR0.out HB.out) | (with_reducible refine Kd.C_alloc ?_ _) | (with_reducible refine Kd.C_drewN ?_ _) | (with_reducible refine Kd.C_drew ?_))); (case side2 => exact HC0.out); rintro e w' ⟨rfl, ⟨nd, rfl⟩⟩; (try first | exact ⟨rfl, _, World.drewN_drewN _ _ _⟩ | exact ⟨rfl, _, Eq.trans (World.drewN_drewN _ _ _) (congrArg (World.drewN _) (Nat.add_assoc _ _ _))⟩))))
        go_ret2
        exact ⟨by first | rfl | (simp [errW_none, errW_some] <;> rfl) | (simp [*, errW_none, errW_some] <;> rfl), by repeat (first | (with_reducible first | exact HB.out | apply below_alloc | apply pw_below_drewN | apply below_drew1 | refine below_set ?_ GE108.out) | exact HB.out)⟩
       ·rw [if_neg c8] at H
        have c8b0 : decide (t110 < x4_1) = false := decide_eq_false c8
        clear c8
        by_cases c13 : (((rd_T43 l0 x4_1).f1).length : Int) > 8
        ·rw [if_pos c13] at H
         have c13b0 : decide (8 < (((rd_T43 l0 x4_1).f1).length : Int)) = true := decide_eq_true c13
         have c13b1 : decide (8 < ((rd_T43 l0 x4_1).f1).length) = true := decide_eq_true (by omega)
         clear c13
         simp only [Option.some.injEq, Prod.mk.injEq] at H
         obtain ⟨rfl, rfl⟩ := H
         have p107 : 0 ≤ (x4_1 : Int) := of_decide_eq_true (by first | (with_reducible assumption) | assumption)
         have q107 : x4_1 < (l0.length : Int) := of_decide_eq_true (by first | (with_reducible assumption) | assumption)
         obtain ⟨ad107, A107_1, c107_1, e107, hx107_0, hx107_1, hl107_1, hi107_1⟩ := at_T43 HR0.out x4_1 p107 q107
         cases e107
         replace hx107_0 := (HB.out.cell (World.block_lt_of_cell? w _ hx107_0)).trans hx107_0
         replace hx107_1 := (HB.out.cell (World.block_lt_of_cell? w _ hx107_1)).trans hx107_1
         have HR107_1 := Aside0.mk hi107_1
         have HC107_1 := Aside0.mk hl107_1
         clear hi107_1 hl107_1
         replace p107 := eq_true p107
         replace q107 := eq_true q107
         go_wp2_with (first | ((with_reducible refine gate_dst (N := 5) rfl ?_); refine box_event ?hg (N := 5) ?hd (cs := #[.string (⟨#[]⟩ : ByteArray), .slice none 0 0]) (t := 43) ?hr ?_; (case hd => rfl); (case hg => rfl); (case hr => first | (go_simp; done) | (go_simp; rfl)); intro gb108 hg w14 hbox hb; have n0_ := Aside0.mk (below_step (by repeat (first | (with_reducible first | exact HB.out | apply below_alloc | apply pw_below_drewN | apply below_drew1) | exact HB.out)) hb); have n1_ := Aside0.mk (hbox); have n2_ := Aside0.mk ((by rw [hg]; exact (below_size (by repeat (first | (with_reducible first | exact HB.out | apply below_alloc | apply pw_below_drewN | apply below_drew1) | exact HB.out))) : w.heap.size ≤ gb108)); have n3_ := Aside0.mk ((by rw [hg]; exact (below_size (by repeat (first | (with_reducible first | exact HB.out | apply below_alloc | apply pw_below_drewN | apply below_drew1) | exact HB.out))) : w.heap.size ≤ gb108)); clear HB; have HB := n0_; have BK108 := n1_; have GW108 := n2_; have GE108 := n3_; clear n0_ n1_ n2_ n3_; clear hb hbox hg; have hcz15_0 : w14.cell? ⟨gb108, 0, none⟩ = some (.string (⟨#[]⟩ : ByteArray)) := (blk_cell BK108.out 0).trans rfl; have hcz15_1 : w14.cell? ⟨gb108, 1, none⟩ = some (.slice none 0 0) := (blk_cell BK108.out 1).trans rfl; have hfz15_0 := blk_frozen BK108.out 0; have hfz15_1 := blk_frozen BK108.out 1) | (go_at_call 70; (with_reducible refine (truantref02_Word.calls k1 ((rd_T43 l0 x4_1).f0) true _ A5.out).mono ?_); rintro e w16 ⟨rfl, hb⟩; have n0_ := Aside0.mk (blk_below (g := gb108) (o := .cells #[.string ((rd_T43 l0 x4_1).f0), .slice A107_1 ((rd_T43 l0 x4_1).f1).length c107_1] 43 (0, 0)) (by (with_reducible repeat (first | refine blk_drewN ?_ _ | refine blk_drew ?_ | refine blk_alloc ?_ _)); refine blk_put (cs := #[.string ((rd_T43 l0 x4_1).f0), .slice none 0 0]) ?_ 1 _ rfl; (with_reducible repeat (first | refine blk_drewN ?_ _ | refine blk_drew ?_ | refine blk_alloc ?_ _)); refine blk_put (cs := #[.string (⟨#[]⟩ : ByteArray), .slice none 0 0]) ?_ 0 _ rfl; (with_reducible repeat (first | refine blk_drewN ?_ _ | refine blk_drew ?_ | refine blk_alloc ?_ _)); exact BK108.out) hb); have n1_ := Aside0.mk (below_step (by repeat (first | (with_reducible first | exact HB.out | apply below_alloc | apply pw_below_drewN | apply below_drew1 | refine below_set ?_ GE108.out) | exact HB.out)) hb); clear BK108; clear HB; have BK108 := n0_; have HB := n1_; clear n0_ n1_; (try clear hb); (try clear hb2); (try clear hk); (try clear hi); have hcz17_0 : w16.cell? ⟨gb108, 0, none⟩ = some (.string ((rd_T43 l0 x4_1).f0)) := (blk_cell BK108.out 0).trans rfl; have hcz17_1 : w16.cell? ⟨gb108, 1, none⟩ = some (.slice A107_1 ((rd_T43 l0 x4_1).f1).length c107_1) := (blk_cell BK108.out 1).trans rfl; have hfz17_0 := blk_frozen BK108.out 0; have hfz17_1 := blk_frozen BK108.out 1) | (go_at_call 19; (with_reducible refine (truantref03_Find.calls k1 _ _ l0 ((rd_T43 l0 x4_1).f0) t110 _ ?side1 ?side2 A7.out).mono ?_); (case side1 => repeat (first | exact (Kd.C_below HR0.out HB.out) | (with_reducible refine Kd.C_alloc ?_ _) | (with_reducible refine Kd.C_drewN ?_ _) | (with_reducible refine Kd.C_drew ?_))); (case side2 => exact HC0.out); rintro e w' ⟨rfl, ⟨nd, rfl⟩⟩; (try first | exact ⟨rfl, _, World.drewN_drewN _ _ _⟩ | exact ⟨rfl, _, Eq.trans (World.drewN_drewN _ _ _) (congrArg (World.drewN _) (Nat.add_assoc _ _ _))⟩)))
         repeat (go_quiet (first | ((with_reducible refine gate_dst (N := 5) rfl ?_); refine box_event ?hg (N := 5) ?hd (cs := #[.string (⟨#[]⟩ : ByteArray), .slice none 0 0]) (t := 43) ?hr ?_; (case hd => rfl); (case hg => rfl); (case hr => first | (go_simp; done) | (go_simp; rfl)); intro gb108 hg w14 hbox hb; have n0_ := Aside0.mk (below_step (by repeat (first | (with_reducible first | exact HB.out | apply below_alloc | apply pw_below_drewN | apply below_drew1) | exact HB.out)) hb); have n1_ := Aside0.mk (hbox); have n2_ := Aside0.mk ((by rw [hg]; exact (below_size (by repeat (first | (with_reducible first | exact HB.out | apply below_alloc | apply pw_below_drewN | apply below_drew1) | exact HB.out))) : w.heap.size ≤ gb108)); have n3_ := Aside0.mk ((by rw [hg]; exact (below_size (by repeat (first | (with_reducible first | exact HB.out | apply below_alloc | apply pw_below_drewN | apply below_drew1) | exact HB.out))) : w.heap.size ≤ gb108)); clear HB; have HB := n0_; have BK108 := n1_; have GW108 := n2_; have GE108 := n3_; clear n0_ n1_ n2_ n3_; clear hb hbox hg; have hcz15_0 : w14.cell? ⟨gb108, 0, none⟩ = some (.string (⟨#[]⟩ : ByteArray)) := (blk_cell BK108.out 0).trans rfl; have hcz15_1 : w14.cell? ⟨gb108, 1, none⟩ = some (.slice none 0 0) := (blk_cell BK108.out 1).trans rfl; have hfz15_0 := blk_frozen BK108.out 0; have hfz15_1 := blk_frozen BK108.out 1) | (go_at_call 70; (with_reducible refine (truantref02_Word.calls k1 ((rd_T43 l0 x4_1).f0) true _ A5.out).mono ?_); clear A5; rintro e w16 ⟨rfl, hb⟩; have n0_ := Aside0.mk (blk_below (g := gb108) (o := .cells #[.string ((rd_T43 l0 x4_1).f0), .slice A107_1 ((rd_T43 l0 x4_1).f1).length c107_1] 43 (0, 0)) (by (with_reducible repeat (first | refine blk_drewN ?_ _ | refine blk_drew ?_ | refine blk_alloc ?_ _)); refine blk_put (cs := #[.string ((rd_T43 l0 x4_1).f0), .slice none 0 0]) ?_ 1 _ rfl; (with_reducible repeat (first | refine blk_drewN ?_ _ | refine blk_drew ?_ | refine blk_alloc ?_ _)); refine blk_put (cs := #[.string (⟨#[]⟩ : ByteArray), .slice none 0 0]) ?_ 0 _ rfl; (with_reducible repeat (first | refine blk_drewN ?_ _ | refine blk_drew ?_ | refine blk_alloc ?_ _)); exact BK108.out) hb); have n1_ := Aside0.mk (below_step (by repeat (first | (with_reducible first | exact HB.out | apply below_alloc | apply pw_below_drewN | apply below_drew1 | refine below_set ?_ GE108.out) | exact HB.out)) hb); clear BK108; clear HB; have BK108 := n0_; have HB := n1_; clear n0_ n1_; (try clear hb); (try clear hb2); (try clear hk); (try clear hi); have hcz17_0 : w16.cell? ⟨gb108, 0, none⟩ = some (.string ((rd_T43 l0 x4_1).f0)) := (blk_cell BK108.out 0).trans rfl; have hcz17_1 : w16.cell? ⟨gb108, 1, none⟩ = some (.slice A107_1 ((rd_T43 l0 x4_1).f1).length c107_1) := (blk_cell BK108.out 1).trans rfl; have hfz17_0 := blk_frozen BK108.out 0; have hfz17_1 := blk_frozen BK108.out 1) | (go_at_call 19; (with_reducible refine (truantref03_Find.calls k1 _ _ l0 ((rd_T43 l0 x4_1).f0) t110 _ ?side1 ?side2 A7.out).mono ?_); clear A7; (case side1 => repeat (first | exact (Kd.C_below HR0.out HB.out) | (with_reducible refine Kd.C_alloc ?_ _) | (with_reducible refine Kd.C_drewN ?_ _) | (with_reducible refine Kd.C_drew ?_))); (case side2 => exact HC0.out); rintro e w' ⟨rfl, ⟨nd, rfl⟩⟩; (try first | exact ⟨rfl, _, World.drewN_drewN _ _ _⟩ | exact ⟨rfl, _, Eq.trans (World.drewN_drewN _ _ _) (congrArg (World.drewN _) (Nat.add_assoc _ _ _))⟩))); try go_wp2_with (first | ((with_reducible refine gate_dst (N := 5) rfl ?_); refine box_event ?hg (N := 5) ?hd (cs := #[.string (⟨#[]⟩ : ByteArray), .slice none 0 0]) (t := 43) ?hr ?_; (case hd => rfl); (case hg => rfl); (case hr => first | (go_simp; done) | (go_simp; rfl)); intro gb108 hg w14 hbox hb; have n0_ := Aside0.mk (below_step (by repeat (first | (with_reducible first | exact HB.out | apply below_alloc | apply pw_below_drewN | apply below_drew1) | exact HB.out)) hb); have n1_ := Aside0.mk (hbox); have n2_ := Aside0.mk ((by rw [hg]; exact (below_size (by repeat (first | (with_reducible first | exact HB.out | apply below_alloc | apply pw_below_drewN | apply below_drew1) | exact HB.out))) : w.heap.size ≤ gb108)); have n3_ := Aside0.mk ((by rw [hg]; exact (below_size (by repeat (first | (with_reducible first | exact HB.out | apply below_alloc | apply pw_below_drewN | apply below_drew1) | exact HB.out))) : w.heap.size ≤ gb108)); clear HB; have HB := n0_; have BK108 := n1_; have GW108 := n2_; have GE108 := n3_; clear n0_ n1_ n2_ n3_; clear hb hbox hg; have hcz15_0 : w14.cell? ⟨gb108, 0, none⟩ = some (.string (⟨#[]⟩ : ByteArray)) := (blk_cell BK108.out 0).trans rfl; have hcz15_1 : w14.cell? ⟨gb108, 1, none⟩ = some (.slice none 0 0) := (blk_cell BK108.out 1).trans rfl; have hfz15_0 := blk_frozen BK108.out 0; have hfz15_1 := blk_frozen BK108.out 1) | (go_at_call 70; (with_reducible refine (truantref02_Word.calls k1 ((rd_T43 l0 x4_1).f0) true _ A5.out).mono ?_); clear A5; rintro e w16 ⟨rfl, hb⟩; have n0_ := Aside0.mk (blk_below (g := gb108) (o := .cells #[.string ((rd_T43 l0 x4_1).f0), .slice A107_1 ((rd_T43 l0 x4_1).f1).length c107_1] 43 (0, 0)) (by (with_reducible repeat (first | refine blk_drewN ?_ _ | refine blk_drew ?_ | refine blk_alloc ?_ _)); refine blk_put (cs := #[.string ((rd_T43 l0 x4_1).f0), .slice none 0 0]) ?_ 1 _ rfl; (with_reducible repeat (first | refine blk_drewN ?_ _ | refine blk_drew ?_ | refine blk_alloc ?_ _)); refine blk_put (cs := #[.string (⟨#[]⟩ : ByteArray), .slice none 0 0]) ?_ 0 _ rfl; (with_reducible repeat (first | refine blk_drewN ?_ _ | refine blk_drew ?_ | refine blk_alloc ?_ _)); exact BK108.out) hb); have n1_ := Aside0.mk (below_step (by repeat (first | (with_reducible first | exact HB.out | apply below_alloc | apply pw_below_drewN | apply below_drew1 | refine below_set ?_ GE108.out) | exact HB.out)) hb); clear BK108; clear HB; have BK108 := n0_; have HB := n1_; clear n0_ n1_; (try clear hb); (try clear hb2); (try clear hk); (try clear hi); have hcz17_0 : w16.cell? ⟨gb108, 0, none⟩ = some (.string ((rd_T43 l0 x4_1).f0)) := (blk_cell BK108.out 0).trans rfl; have hcz17_1 : w16.cell? ⟨gb108, 1, none⟩ = some (.slice A107_1 ((rd_T43 l0 x4_1).f1).length c107_1) := (blk_cell BK108.out 1).trans rfl; have hfz17_0 := blk_frozen BK108.out 0; have hfz17_1 := blk_frozen BK108.out 1) | (go_at_call 19; (with_reducible refine (truantref03_Find.calls k1 _ _ l0 ((rd_T43 l0 x4_1).f0) t110 _ ?side1 ?side2 A7.out).mono ?_); clear A7; (case side1 => repeat (first | exact (Kd.C_below HR0.out HB.out) | (with_reducible refine Kd.C_alloc ?_ _) | (with_reducible refine Kd.C_drewN ?_ _) | (with_reducible refine Kd.C_drew ?_))); (case side2 => exact HC0.out); rintro e w' ⟨rfl, ⟨nd, rfl⟩⟩; (try first | exact ⟨rfl, _, World.drewN_drewN _ _ _⟩ | exact ⟨rfl, _, Eq.trans (World.drewN_drewN _ _ _) (congrArg (World.drewN _) (Nat.add_assoc _ _ _))⟩))))
         go_ret2
         exact ⟨by first | rfl | (simp [errW_none, errW_some] <;> rfl) | (simp [*, errW_none, errW_some] <;> rfl), by repeat (first | (with_reducible first | exact HB.out | apply below_alloc | apply pw_below_drewN | apply below_drew1 | refine below_set ?_ GE108.out) | exact HB.out)⟩
        ·rw [if_neg c13] at H
         have c13b0 : decide (8 < (((rd_T43 l0 x4_1).f1).length : Int)) = false := decide_eq_false c13
         have c13b1 : decide (8 < ((rd_T43 l0 x4_1).f1).length) = false := decide_eq_false (by omega)
         clear c13
         have H' := Aside0.mk H
         clear H
         have p107 : 0 ≤ (x4_1 : Int) := of_decide_eq_true (by first | (with_reducible assumption) | assumption)
         have q107 : x4_1 < (l0.length : Int) := of_decide_eq_true (by first | (with_reducible assumption) | assumption)
         obtain ⟨ad107, A107_1, c107_1, e107, hx107_0, hx107_1, hl107_1, hi107_1⟩ := at_T43 HR0.out x4_1 p107 q107
         cases e107
         replace hx107_0 := (HB.out.cell (World.block_lt_of_cell? w _ hx107_0)).trans hx107_0
         replace hx107_1 := (HB.out.cell (World.block_lt_of_cell? w _ hx107_1)).trans hx107_1
         have HR107_1 := Aside0.mk hi107_1
         have HC107_1 := Aside0.mk hl107_1
         clear hi107_1 hl107_1
         replace p107 := eq_true p107
         replace q107 := eq_true q107
         go_wp2_with (first | ((with_reducible refine gate_dst (N := 5) rfl ?_); refine box_event ?hg (N := 5) ?hd (cs := #[.string (⟨#[]⟩ : ByteArray), .slice none 0 0]) (t := 43) ?hr ?_; (case hd => rfl); (case hg => rfl); (case hr => first | (go_simp; done) | (go_simp; rfl)); intro gb108 hg w18 hbox hb; have n0_ := Aside0.mk (below_step (by repeat (first | (with_reducible first | exact HB.out | apply below_alloc | apply pw_below_drewN | apply below_drew1) | exact HB.out)) hb); have n1_ := Aside0.mk (hbox); have n2_ := Aside0.mk ((by rw [hg]; exact (below_size (by repeat (first | (with_reducible first | exact HB.out | apply below_alloc | apply pw_below_drewN | apply below_drew1) | exact HB.out))) : w.heap.size ≤ gb108)); have n3_ := Aside0.mk ((by rw [hg]; exact (below_size (by repeat (first | (with_reducible first | exact HB.out | apply below_alloc | apply pw_below_drewN | apply below_drew1) | exact HB.out))) : w.heap.size ≤ gb108)); clear HB; have HB := n0_; have BK108 := n1_; have GW108 := n2_; have GE108 := n3_; clear n0_ n1_ n2_ n3_; clear hb hbox hg; have hcz19_0 : w18.cell? ⟨gb108, 0, none⟩ = some (.string (⟨#[]⟩ : ByteArray)) := (blk_cell BK108.out 0).trans rfl; have hcz19_1 : w18.cell? ⟨gb108, 1, none⟩ = some (.slice none 0 0) := (blk_cell BK108.out 1).trans rfl; have hfz19_0 := blk_frozen BK108.out 0; have hfz19_1 := blk_frozen BK108.out 1) | (go_at_call 70; (with_reducible refine (truantref02_Word.calls k1 ((rd_T43 l0 x4_1).f0) true _ A5.out).mono ?_); rintro e w20 ⟨rfl, hb⟩; have n0_ := Aside0.mk (blk_below (g := gb108) (o := .cells #[.string ((rd_T43 l0 x4_1).f0), .slice A107_1 ((rd_T43 l0 x4_1).f1).length c107_1] 43 (0, 0)) (by (with_reducible repeat (first | refine blk_drewN ?_ _ | refine blk_drew ?_ | refine blk_alloc ?_ _)); refine blk_put (cs := #[.string ((rd_T43 l0 x4_1).f0), .slice none 0 0]) ?_ 1 _ rfl; (with_reducible repeat (first | refine blk_drewN ?_ _ | refine blk_drew ?_ | refine blk_alloc ?_ _)); refine blk_put (cs := #[.string (⟨#[]⟩ : ByteArray), .slice none 0 0]) ?_ 0 _ rfl; (with_reducible repeat (first | refine blk_drewN ?_ _ | refine blk_drew ?_ | refine blk_alloc ?_ _)); exact BK108.out) hb); have n1_ := Aside0.mk (below_step (by repeat (first | (with_reducible first | exact HB.out | apply below_alloc | apply pw_below_drewN | apply below_drew1 | refine below_set ?_ GE108.out) | exact HB.out)) hb); clear BK108; clear HB; have BK108 := n0_; have HB := n1_; clear n0_ n1_; (try clear hb); (try clear hb2); (try clear hk); (try clear hi); have hcz21_0 : w20.cell? ⟨gb108, 0, none⟩ = some (.string ((rd_T43 l0 x4_1).f0)) := (blk_cell BK108.out 0).trans rfl; have hcz21_1 : w20.cell? ⟨gb108, 1, none⟩ = some (.slice A107_1 ((rd_T43 l0 x4_1).f1).length c107_1) := (blk_cell BK108.out 1).trans rfl; have hfz21_0 := blk_frozen BK108.out 0; have hfz21_1 := blk_frozen BK108.out 1) | (go_at_call 19; (with_reducible refine (truantref03_Find.calls k1 _ _ l0 ((rd_T43 l0 x4_1).f0) t110 _ ?side1 ?side2 A7.out).mono ?_); (case side1 => repeat (first | exact (Kd.C_below HR0.out HB.out) | (with_reducible refine Kd.C_alloc ?_ _) | (with_reducible refine Kd.C_drewN ?_ _) | (with_reducible refine Kd.C_drew ?_))); (case side2 => exact HC0.out); rintro e w' ⟨rfl, ⟨nd, rfl⟩⟩; (try first | exact ⟨rfl, _, World.drewN_drewN _ _ _⟩ | exact ⟨rfl, _, Eq.trans (World.drewN_drewN _ _ _) (congrArg (World.drewN _) (Nat.add_assoc _ _ _))⟩)))
         repeat (go_quiet (first | ((with_reducible refine gate_dst (N := 5) rfl ?_); refine box_event ?hg (N := 5) ?hd (cs := #[.string (⟨#[]⟩ : ByteArray), .slice none 0 0]) (t := 43) ?hr ?_; (case hd => rfl); (case hg => rfl); (case hr => first | (go_simp; done) | (go_simp; rfl)); intro gb108 hg w18 hbox hb; have n0_ := Aside0.mk (below_step (by repeat (first | (with_reducible first | exact HB.out | apply below_alloc | apply pw_below_drewN | apply below_drew1) | exact HB.out)) hb); have n1_ := Aside0.mk (hbox); have n2_ := Aside0.mk ((by rw [hg]; exact (below_size (by repeat (first | (with_reducible first | exact HB.out | apply below_alloc | apply pw_below_drewN | apply below_drew1) | exact HB.out))) : w.heap.size ≤ gb108)); have n3_ := Aside0.mk ((by rw [hg]; exact (below_size (by repeat (first | (with_reducible first | exact HB.out | apply below_alloc | apply pw_below_drewN | apply below_drew1) | exact HB.out))) : w.heap.size ≤ gb108)); clear HB; have HB := n0_; have BK108 := n1_; have GW108 := n2_; have GE108 := n3_; clear n0_ n1_ n2_ n3_; clear hb hbox hg; have hcz19_0 : w18.cell? ⟨gb108, 0, none⟩ = some (.string (⟨#[]⟩ : ByteArray)) := (blk_cell BK108.out 0).trans rfl; have hcz19_1 : w18.cell? ⟨gb108, 1, none⟩ = some (.slice none 0 0) := (blk_cell BK108.out 1).trans rfl; have hfz19_0 := blk_frozen BK108.out 0; have hfz19_1 := blk_frozen BK108.out 1) | (go_at_call 70; (with_reducible refine (truantref02_Word.calls k1 ((rd_T43 l0 x4_1).f0) true _ A5.out).mono ?_); clear A5; rintro e w20 ⟨rfl, hb⟩; have n0_ := Aside0.mk (blk_below (g := gb108) (o := .cells #[.string ((rd_T43 l0 x4_1).f0), .slice A107_1 ((rd_T43 l0 x4_1).f1).length c107_1] 43 (0, 0)) (by (with_reducible repeat (first | refine blk_drewN ?_ _ | refine blk_drew ?_ | refine blk_alloc ?_ _)); refine blk_put (cs := #[.string ((rd_T43 l0 x4_1).f0), .slice none 0 0]) ?_ 1 _ rfl; (with_reducible repeat (first | refine blk_drewN ?_ _ | refine blk_drew ?_ | refine blk_alloc ?_ _)); refine blk_put (cs := #[.string (⟨#[]⟩ : ByteArray), .slice none 0 0]) ?_ 0 _ rfl; (with_reducible repeat (first | refine blk_drewN ?_ _ | refine blk_drew ?_ | refine blk_alloc ?_ _)); exact BK108.out) hb); have n1_ := Aside0.mk (below_step (by repeat (first | (with_reducible first | exact HB.out | apply below_alloc | apply pw_below_drewN | apply below_drew1 | refine below_set ?_ GE108.out) | exact HB.out)) hb); clear BK108; clear HB; have BK108 := n0_; have HB := n1_; clear n0_ n1_; (try clear hb); (try clear hb2); (try clear hk); (try clear hi); have hcz21_0 : w20.cell? ⟨gb108, 0, none⟩ = some (.string ((rd_T43 l0 x4_1).f0)) := (blk_cell BK108.out 0).trans rfl; have hcz21_1 : w20.cell? ⟨gb108, 1, none⟩ = some (.slice A107_1 ((rd_T43 l0 x4_1).f1).length c107_1) := (blk_cell BK108.out 1).trans rfl; have hfz21_0 := blk_frozen BK108.out 0; have hfz21_1 := blk_frozen BK108.out 1) | (go_at_call 19; (with_reducible refine (truantref03_Find.calls k1 _ _ l0 ((rd_T43 l0 x4_1).f0) t110 _ ?side1 ?side2 A7.out).mono ?_); clear A7; (case side1 => repeat (first | exact (Kd.C_below HR0.out HB.out) | (with_reducible refine Kd.C_alloc ?_ _) | (with_reducible refine Kd.C_drewN ?_ _) | (with_reducible refine Kd.C_drew ?_))); (case side2 => exact HC0.out); rintro e w' ⟨rfl, ⟨nd, rfl⟩⟩; (try first | exact ⟨rfl, _, World.drewN_drewN _ _ _⟩ | exact ⟨rfl, _, Eq.trans (World.drewN_drewN _ _ _) (congrArg (World.drewN _) (Nat.add_assoc _ _ _))⟩))); try go_wp2_with (first | ((with_reducible refine gate_dst (N := 5) rfl ?_); refine box_event ?hg (N := 5) ?hd (cs := #[.string (⟨#[]⟩ : ByteArray), .slice none 0 0]) (t := 43) ?hr ?_; (case hd => rfl); (case hg => rfl); (case hr => first | (go_simp; done) | (go_simp; rfl)); intro gb108 hg w18 hbox hb; have n0_ := Aside0.mk (below_step (by repeat (first | (with_reducible first | exact HB.out | apply below_alloc | apply pw_below_drewN | apply below_drew1) | exact HB.out)) hb); have n1_ := Aside0.mk (hbox); have n2_ := Aside0.mk ((by rw [hg]; exact (below_size (by repeat (first | (with_reducible first | exact HB.out | apply below_alloc | apply pw_below_drewN | apply below_drew1) | exact HB.out))) : w.heap.size ≤ gb108)); have n3_ := Aside0.mk ((by rw [hg]; exact (below_size (by repeat (first | (with_reducible first | exact HB.out | apply below_alloc | apply pw_below_drewN | apply below_drew1) | exact HB.out))) : w.heap.size ≤ gb108)); clear HB; have HB := n0_; have BK108 := n1_; have GW108 := n2_; have GE108 := n3_; clear n0_ n1_ n2_ n3_; clear hb hbox hg; have hcz19_0 : w18.cell? ⟨gb108, 0, none⟩ = some (.string (⟨#[]⟩ : ByteArray)) := (blk_cell BK108.out 0).trans rfl; have hcz19_1 : w18.cell? ⟨gb108, 1, none⟩ = some (.slice none 0 0) := (blk_cell BK108.out 1).trans rfl; have hfz19_0 := blk_frozen BK108.out 0; have hfz19_1 := blk_frozen BK108.out 1) | (go_at_call 70; (with_reducible refine (truantref02_Word.calls k1 ((rd_T43 l0 x4_1).f0) true _ A5.out).mono ?_); clear A5; rintro e w20 ⟨rfl, hb⟩; have n0_ := Aside0.mk (blk_below (g := gb108) (o := .cells #[.string ((rd_T43 l0 x4_1).f0), .slice A107_1 ((rd_T43 l0 x4_1).f1).length c107_1] 43 (0, 0)) (by (with_reducible repeat (first | refine blk_drewN ?_ _ | refine blk_drew ?_ | refine blk_alloc ?_ _)); refine blk_put (cs := #[.string ((rd_T43 l0 x4_1).f0), .slice none 0 0]) ?_ 1 _ rfl; (with_reducible repeat (first | refine blk_drewN ?_ _ | refine blk_drew ?_ | refine blk_alloc ?_ _)); refine blk_put (cs := #[.string (⟨#[]⟩ : ByteArray), .slice none 0 0]) ?_ 0 _ rfl; (with_reducible repeat (first | refine blk_drewN ?_ _ | refine blk_drew ?_ | refine blk_alloc ?_ _)); exact BK108.out) hb); have n1_ := Aside0.mk (below_step (by repeat (first | (with_reducible first | exact HB.out | apply below_alloc | apply pw_below_drewN | apply below_drew1 | refine below_set ?_ GE108.out) | exact HB.out)) hb); clear BK108; clear HB; have BK108 := n0_; have HB := n1_; clear n0_ n1_; (try clear hb); (try clear hb2); (try clear hk); (try clear hi); have hcz21_0 : w20.cell? ⟨gb108, 0, none⟩ = some (.string ((rd_T43 l0 x4_1).f0)) := (blk_cell BK108.out 0).trans rfl; have hcz21_1 : w20.cell? ⟨gb108, 1, none⟩ = some (.slice A107_1 ((rd_T43 l0 x4_1).f1).length c107_1) := (blk_cell BK108.out 1).trans rfl; have hfz21_0 := blk_frozen BK108.out 0; have hfz21_1 := blk_frozen BK108.out 1) | (go_at_call 19; (with_reducible refine (truantref03_Find.calls k1 _ _ l0 ((rd_T43 l0 x4_1).f0) t110 _ ?side1 ?side2 A7.out).mono ?_); clear A7; (case side1 => repeat (first | exact (Kd.C_below HR0.out HB.out) | (with_reducible refine Kd.C_alloc ?_ _) | (with_reducible refine Kd.C_drewN ?_ _) | (with_reducible refine Kd.C_drew ?_))); (case side2 => exact HC0.out); rintro e w' ⟨rfl, ⟨nd, rfl⟩⟩; (try first | exact ⟨rfl, _, World.drewN_drewN _ _ _⟩ | exact ⟨rfl, _, Eq.trans (World.drewN_drewN _ _ _) (congrArg (World.drewN _) (Nat.add_assoc _ _ _))⟩))))
         go_loopg [6] k1 (fun kq v6 w' => ∃ (x6_2 : Int), v6 = .int .i64 x6_2 ∧ Aside0 (truantref03_Check.l1 kq l0 x4_1 x6_2 ((rd_T43 l0 x4_1).f0) ((rd_T43 l0 x4_1).f1) = some (r1, r2)) ∧ Aside0 (kq ≤ k1) ∧ Aside0 (w'.heap[gb108]? = some (.cells #[.string ((rd_T43 l0 x4_1).f0), (.slice A107_1 ((rd_T43 l0 x4_1).f1).length c107_1)] 43 (0, 0))) ∧ Aside0 (Below w.heap.size w w'))
         case atStart => exact ⟨(0), (by first | rfl | (simp; done) | (simp [*]; done)), H', ⟨Nat.le_refl _⟩, ⟨by (with_reducible repeat (first | refine blk_drewN ?_ _ | refine blk_drew ?_ | refine blk_alloc ?_ _)); exact BK108.out⟩, ⟨by repeat (first | (with_reducible first | exact HB.out | apply below_alloc | apply pw_below_drewN | apply below_drew1 | refine below_set ?_ GE108.out) | exact HB.out)⟩⟩
         case round =>
          clear H'
          try clear c1
          try clear p1
          try clear q1
          try clear hx1
          try clear c2
          try clear c2b0
          try clear c2b1
          try clear p2
          try clear c3
          try clear c3b0
          try clear c4
          try clear c4b0
          try clear c6
          try clear c8
          try clear c8b0
          try clear c10
          try clear p10
          try clear q10
          try clear hx10
          try clear c13
          try clear c13b0
          try clear c13b1
          try clear c16
          try clear hcz10_0
          try clear hcz10_1
          try clear hcz12_0
          try clear hcz12_1
          try clear hcz15_0
          try clear hcz15_1
          try clear hcz17_0
          try clear hcz17_1
          try clear hcz19_0
          try clear hcz19_1
          try clear hcz21_0
          try clear hcz21_1
          try clear hfz10_0
          try clear hfz10_1
          try clear hfz12_0
          try clear hfz12_1
          try clear hfz15_0
          try clear hfz15_1
          try clear hfz17_0
          try clear hfz17_1
          try clear hfz19_0
          try clear hfz19_1
          try clear hfz21_0
          try clear hfz21_1
          try clear hx107_0
          try clear hx107_1
          try clear p107
          try clear p2
          try clear q107
          obtain ⟨x6_2, rfl, HA, HK2, BK108, HB⟩ := hrel
          cases gk with
          | zero => exact absurd HA.out (by simp [truantref03_Check.l1])
          | succ k2 =>
           have H := HA.out
           clear HA
           simp only [truantref03_Check.l1] at H
           by_cases c22 : x6_2 < (((rd_T43 l0 x4_1).f1).length : Int)
           ·rw [if_pos c22] at H
            have c22b0 : decide (x6_2 < (((rd_T43 l0 x4_1).f1).length : Int)) = true := decide_eq_true c22
            clear c22
            by_cases c23 : 0 ≤ x6_2
            ·rw [if_pos c23] at H
             have c23b0 : decide (0 ≤ x6_2) = true := decide_eq_true c23
             clear c23
             replace H := Option.bind_eq_some_iff.mp H
             obtain ⟨t112, A240, H⟩ := H
             replace H : (if t112 = true then (truantref03_Check.l2 k2 l0 x4_1 x6_2 0 ((rd_T43 l0 x4_1).f0) ((rd_T43 l0 x4_1).f1)) else (some (x4_1, 1))) = some (r1, r2) := H
             have A24 := Aside0.mk A240
             clear A240
             by_cases c25 : t112 = true
             ·subst c25
              have H1 : (truantref03_Check.l2 k2 l0 x4_1 x6_2 0 ((rd_T43 l0 x4_1).f0) ((rd_T43 l0 x4_1).f1)) = some (r1, r2) := by rw [if_pos rfl] at H; exact H
              clear H
              have H := H1
              clear H1
              have H' := Aside0.mk H
              clear H
              have hcz26_0 : wr.cell? ⟨gb108, 0, none⟩ = some (.string ((rd_T43 l0 x4_1).f0)) := (blk_cell BK108.out 0).trans rfl
              have hcz26_1 : wr.cell? ⟨gb108, 1, none⟩ = some (.slice A107_1 ((rd_T43 l0 x4_1).f1).length c107_1) := (blk_cell BK108.out 1).trans rfl
              have hfz26_0 := blk_frozen BK108.out 0
              have hfz26_1 := blk_frozen BK108.out 1
              have p111 : 0 ≤ (x6_2 : Int) := of_decide_eq_true (by first | (with_reducible assumption) | assumption)
              have q111 : x6_2 < (((rd_T43 l0 x4_1).f1).length : Int) := of_decide_eq_true (by first | (with_reducible assumption) | assumption)
              obtain ⟨ad111, e111, hx111_0, hx111_1⟩ := at_T48 HR107_1.out x6_2 p111 q111
              cases e111
              replace hx111_0 := (HB.out.cell (World.block_lt_of_cell? w _ hx111_0)).trans hx111_0
              replace hx111_1 := (HB.out.cell (World.block_lt_of_cell? w _ hx111_1)).trans hx111_1
              replace p111 := eq_true p111
              replace q111 := eq_true q111
              go_wp2_with (first | (go_at_call 70; (with_reducible refine (truantref02_Word.calls k2 ((rd_T48 ((rd_T43 l0 x4_1).f1) x6_2).f0) true _ A24.out).mono ?_); rintro e w27 ⟨rfl, hb⟩; have n0_ := Aside0.mk (blk_below (g := gb108) (o := .cells #[.string ((rd_T43 l0 x4_1).f0), .slice (some ad111) ((rd_T43 l0 x4_1).f1).length c107_1] 43 (0, 0)) (by (with_reducible repeat (first | refine blk_drewN ?_ _ | refine blk_drew ?_ | refine blk_alloc ?_ _)); exact BK108.out) hb); have n1_ := Aside0.mk (below_step (by repeat (first | (with_reducible first | exact HB.out | apply below_alloc | apply pw_below_drewN | apply below_drew1 | refine below_set ?_ GE108.out) | exact HB.out)) hb); clear BK108; clear HB; have BK108 := n0_; have HB := n1_; clear n0_ n1_; (try clear hb); (try clear hb2); (try clear hk); (try clear hi)))
              repeat (go_quiet (first | (go_at_call 70; (with_reducible refine (truantref02_Word.calls k2 ((rd_T48 ((rd_T43 l0 x4_1).f1) x6_2).f0) true _ A24.out).mono ?_); clear A24; rintro e w27 ⟨rfl, hb⟩; have n0_ := Aside0.mk (blk_below (g := gb108) (o := .cells #[.string ((rd_T43 l0 x4_1).f0), .slice (some ad111) ((rd_T43 l0 x4_1).f1).length c107_1] 43 (0, 0)) (by (with_reducible repeat (first | refine blk_drewN ?_ _ | refine blk_drew ?_ | refine blk_alloc ?_ _)); exact BK108.out) hb); have n1_ := Aside0.mk (below_step (by repeat (first | (with_reducible first | exact HB.out | apply below_alloc | apply pw_below_drewN | apply below_drew1 | refine below_set ?_ GE108.out) | exact HB.out)) hb); clear BK108; clear HB; have BK108 := n0_; have HB := n1_; clear n0_ n1_; (try clear hb); (try clear hb2); (try clear hk); (try clear hi))); try go_wp2_with (first | (go_at_call 70; (with_reducible refine (truantref02_Word.calls k2 ((rd_T48 ((rd_T43 l0 x4_1).f1) x6_2).f0) true _ A24.out).mono ?_); clear A24; rintro e w27 ⟨rfl, hb⟩; have n0_ := Aside0.mk (blk_below (g := gb108) (o := .cells #[.string ((rd_T43 l0 x4_1).f0), .slice (some ad111) ((rd_T43 l0 x4_1).f1).length c107_1] 43 (0, 0)) (by (with_reducible repeat (first | refine blk_drewN ?_ _ | refine blk_drew ?_ | refine blk_alloc ?_ _)); exact BK108.out) hb); have n1_ := Aside0.mk (below_step (by repeat (first | (with_reducible first | exact HB.out | apply below_alloc | apply pw_below_drewN | apply below_drew1 | refine below_set ?_ GE108.out) | exact HB.out)) hb); clear BK108; clear HB; have BK108 := n0_; have HB := n1_; clear n0_ n1_; (try clear hb); (try clear hb2); (try clear hk); (try clear hi))))
              go_loopg [7] k2 (fun kq v7 w' => ∃ (x7_3 : Int), v7 = .int .i64 x7_3 ∧ Aside0 (truantref03_Check.l2 kq l0 x4_1 x6_2 x7_3 ((rd_T43 l0 x4_1).f0) ((rd_T43 l0 x4_1).f1) = some (r1, r2)) ∧ Aside0 (kq ≤ k2) ∧ Aside0 (w'.heap[gb108]? = some (.cells #[.string ((rd_T43 l0 x4_1).f0), (.slice (some ad111) ((rd_T43 l0 x4_1).f1).length c107_1)] 43 (0, 0))) ∧ Aside0 (Below w.heap.size w w'))
              case atStart => exact ⟨(0), (by first | rfl | (simp; done) | (simp [*]; done)), H', ⟨Nat.le_refl _⟩, ⟨by (with_reducible repeat (first | refine blk_drewN ?_ _ | refine blk_drew ?_ | refine blk_alloc ?_ _)); exact BK108.out⟩, ⟨by repeat (first | (with_reducible first | exact HB.out | apply below_alloc | apply pw_below_drewN | apply below_drew1 | refine below_set ?_ GE108.out) | exact HB.out)⟩⟩
              case round =>
               clear H'
               try clear c1
               try clear p1
               try clear q1
               try clear hx1
               try clear c2
               try clear c2b0
               try clear c2b1
               try clear p2
               try clear c3
               try clear c3b0
               try clear c4
               try clear c4b0
               try clear c6
               try clear c8
               try clear c8b0
               try clear c10
               try clear p10
               try clear q10
               try clear hx10
               try clear p11
               try clear q11
               try clear hx11
               try clear c13
               try clear c13b0
               try clear c13b1
               try clear c16
               try clear c22
               try clear c22b0
               try clear c23
               try clear c23b0
               try clear c25
               try clear hcz10_0
               try clear hcz10_1
               try clear hcz12_0
               try clear hcz12_1
               try clear hcz15_0
               try clear hcz15_1
               try clear hcz17_0
               try clear hcz17_1
               try clear hcz19_0
               try clear hcz19_1
               try clear hcz21_0
               try clear hcz21_1
               try clear hcz26_0
               try clear hcz26_1
               try clear hfz10_0
               try clear hfz10_1
               try clear hfz12_0
               try clear hfz12_1
               try clear hfz15_0
               try clear hfz15_1
               try clear hfz17_0
               try clear hfz17_1
               try clear hfz19_0
               try clear hfz19_1
               try clear hfz21_0
               try clear hfz21_1
               try clear hfz26_0
               try clear hfz26_1
               try clear hx107_0
               try clear hx107_1
               try clear hx111_0
               try clear hx111_1
               try clear p1
               try clear p10
               try clear p107
               try clear p111
               try clear p2
               try clear q1
               try clear q10
               try clear q107
               try clear q111
               obtain ⟨x7_3, rfl, HA, HK3, BK108, HB⟩ := hrel
               cases gk with
               | zero => exact absurd HA.out (by simp [truantref03_Check.l2])
               | succ k3 =>
                have H := HA.out
                clear HA
                simp only [truantref03_Check.l2] at H
                by_cases c28 : x7_3 < x6_2
                ·rw [if_pos c28] at H
                 have c28b0 : decide (x7_3 < x6_2) = true := decide_eq_true c28
                 clear c28
                 by_cases c29 : 0 ≤ x7_3
                 ·rw [if_pos c29] at H
                  have c29b0 : decide (0 ≤ x7_3) = true := decide_eq_true c29
                  clear c29
                  by_cases c30 : x7_3 < (((rd_T43 l0 x4_1).f1).length : Int)
                  ·rw [if_pos c30] at H
                   have c30b0 : decide (x7_3 < (((rd_T43 l0 x4_1).f1).length : Int)) = true := decide_eq_true c30
                   clear c30
                   by_cases c31 : 0 ≤ x6_2
                   ·rw [if_pos c31] at H
                    have c31b0 : decide (0 ≤ x6_2) = true := decide_eq_true c31
                    clear c31
                    by_cases c32 : x6_2 < (((rd_T43 l0 x4_1).f1).length : Int)
                    ·rw [if_pos c32] at H
                     have c32b0 : decide (x6_2 < (((rd_T43 l0 x4_1).f1).length : Int)) = true := decide_eq_true c32
                     clear c32
                     by_cases c33 : ((rd_T48 ((rd_T43 l0 x4_1).f1) x7_3).f0).toList = ((rd_T48 ((rd_T43 l0 x4_1).f1) x6_2).f0).toList
                     ·rw [if_pos c33] at H
                      have c33b0 : (((rd_T48 ((rd_T43 l0 x4_1).f1) x7_3).f0).toList == ((rd_T48 ((rd_T43 l0 x4_1).f1) x6_2).f0).toList) = true := beq_iff_eq.mpr c33
                      have c33b1 : (((rd_T48 ((rd_T43 l0 x4_1).f1) x7_3).f0).toList != ((rd_T48 ((rd_T43 l0 x4_1).f1) x6_2).f0).toList) = false := bne_eq_false_iff_eq.mpr c33
                      clear c33
                      simp only [Option.some.injEq, Prod.mk.injEq] at H
                      obtain ⟨rfl, rfl⟩ := H
                      have hcz34_0 : wr.cell? ⟨gb108, 0, none⟩ = some (.string ((rd_T43 l0 x4_1).f0)) := (blk_cell BK108.out 0).trans rfl
                      have hcz34_1 : wr.cell? ⟨gb108, 1, none⟩ = some (.slice (some ad111) ((rd_T43 l0 x4_1).f1).length c107_1) := (blk_cell BK108.out 1).trans rfl
                      have hfz34_0 := blk_frozen BK108.out 0
                      have hfz34_1 := blk_frozen BK108.out 1
                      have p113 : 0 ≤ (x7_3 : Int) := of_decide_eq_true (by first | (with_reducible assumption) | assumption)
                      have q113 : x7_3 < (((rd_T43 l0 x4_1).f1).length : Int) := of_decide_eq_true (by first | (with_reducible assumption) | assumption)
                      obtain ⟨ad113, e113, hx113_0, hx113_1⟩ := at_T48 HR107_1.out x7_3 p113 q113
                      obtain rfl : ad111 = ad113 := (by injection e113)
                      replace hx113_0 := (HB.out.cell (World.block_lt_of_cell? w _ hx113_0)).trans hx113_0
                      replace hx113_1 := (HB.out.cell (World.block_lt_of_cell? w _ hx113_1)).trans hx113_1
                      replace p113 := eq_true p113
                      replace q113 := eq_true q113
                      have p114 : 0 ≤ (x6_2 : Int) := of_decide_eq_true (by first | (with_reducible assumption) | assumption)
                      have q114 : x6_2 < (((rd_T43 l0 x4_1).f1).length : Int) := of_decide_eq_true (by first | (with_reducible assumption) | assumption)
                      obtain ⟨ad114, e114, hx114_0, hx114_1⟩ := at_T48 HR107_1.out x6_2 p114 q114
                      obtain rfl : ad111 = ad114 := (by injection e114)
                      replace hx114_0 := (HB.out.cell (World.block_lt_of_cell? w _ hx114_0)).trans hx114_0
                      replace hx114_1 := (HB.out.cell (World.block_lt_of_cell? w _ hx114_1)).trans hx114_1
                      replace p114 := eq_true p114
                      replace q114 := eq_true q114
                      go_wp2
                      repeat (go_quiet (fail); try go_wp2)
                      go_ret2
                      exact ⟨by first | rfl | (simp [errW_none, errW_some] <;> rfl) | (simp [*, errW_none, errW_some] <;> rfl), by repeat (first | (with_reducible first | exact HB.out | apply below_alloc | apply pw_below_drewN | apply below_drew1 | refine below_set ?_ GE108.out) | exact HB.out)⟩
                     ·rw [if_neg c33] at H
                      have c33b0 : (((rd_T48 ((rd_T43 l0 x4_1).f1) x7_3).f0).toList == ((rd_T48 ((rd_T43 l0 x4_1).f1) x6_2).f0).toList) = false := beq_eq_false_iff_ne.mpr c33
                      have c33b1 : (((rd_T48 ((rd_T43 l0 x4_1).f1) x7_3).f0).toList != ((rd_T48 ((rd_T43 l0 x4_1).f1) x6_2).f0).toList) = true := bne_iff_ne.mpr c33
                      have H' := Aside0.mk H
                      clear H
                      have hcz35_0 : wr.cell? ⟨gb108, 0, none⟩ = some (.string ((rd_T43 l0 x4_1).f0)) := (blk_cell BK108.out 0).trans rfl
                      have hcz35_1 : wr.cell? ⟨gb108, 1, none⟩ = some (.slice (some ad111) ((rd_T43 l0 x4_1).f1).length c107_1) := (blk_cell BK108.out 1).trans rfl
                      have hfz35_0 := blk_frozen BK108.out 0
                      have hfz35_1 := blk_frozen BK108.out 1
                      have p113 : 0 ≤ (x7_3 : Int) := of_decide_eq_true (by first | (with_reducible assumption) | assumption)
                      have q113 : x7_3 < (((rd_T43 l0 x4_1).f1).length : Int) := of_decide_eq_true (by first | (with_reducible assumption) | assumption)
                      obtain ⟨ad113, e113, hx113_0, hx113_1⟩ := at_T48 HR107_1.out x7_3 p113 q113
                      obtain rfl : ad111 = ad113 := (by injection e113)
                      replace hx113_0 := (HB.out.cell (World.block_lt_of_cell? w _ hx113_0)).trans hx113_0
                      replace hx113_1 := (HB.out.cell (World.block_lt_of_cell? w _ hx113_1)).trans hx113_1
                      replace p113 := eq_true p113
                      replace q113 := eq_true q113
                      have p114 : 0 ≤ (x6_2 : Int) := of_decide_eq_true (by first | (with_reducible assumption) | assumption)
                      have q114 : x6_2 < (((rd_T43 l0 x4_1).f1).length : Int) := of_decide_eq_true (by first | (with_reducible assumption) | assumption)
                      obtain ⟨ad114, e114, hx114_0, hx114_1⟩ := at_T48 HR107_1.out x6_2 p114 q114
                      obtain rfl : ad111 = ad114 := (by injection e114)
                      replace hx114_0 := (HB.out.cell (World.block_lt_of_cell? w _ hx114_0)).trans hx114_0
                      replace hx114_1 := (HB.out.cell (World.block_lt_of_cell? w _ hx114_1)).trans hx114_1
                      replace p114 := eq_true p114
                      replace q114 := eq_true q114
                      go_wp2
                      repeat (go_quiet (fail); try go_wp2)
                      go_roundg k3
                      case measure => have := HK1.out; have := HK2.out; have := HK3.out; omega
                      case rel => exact ⟨(wrap64 (x7_3 + 1)), (by first | rfl | (simp; done) | (simp [*]; done)), H', ⟨by have := HK1.out; have := HK2.out; have := HK3.out; omega⟩, ⟨by (with_reducible repeat (first | refine blk_drewN ?_ _ | refine blk_drew ?_ | refine blk_alloc ?_ _)); exact BK108.out⟩, ⟨by repeat (first | (with_reducible first | exact HB.out | apply below_alloc | apply pw_below_drewN | apply below_drew1 | refine below_set ?_ GE108.out) | exact HB.out)⟩⟩
                    ·rw [if_neg c32] at H
                     exact absurd H (by simp)
                   ·rw [if_neg c31] at H
                    exact absurd H (by simp)
                  ·rw [if_neg c30] at H
                   exact absurd H (by simp)
                 ·rw [if_neg c29] at H
                  exact absurd H (by simp)
                ·rw [if_neg c28] at H
                 have c28b0 : decide (x7_3 < x6_2) = false := decide_eq_false c28
                 clear c28
                 by_cases c36 : 0 ≤ x6_2
                 ·rw [if_pos c36] at H
                  have c36b0 : decide (0 ≤ x6_2) = true := decide_eq_true c36
                  clear c36
                  by_cases c37 : x6_2 < (((rd_T43 l0 x4_1).f1).length : Int)
                  ·rw [if_pos c37] at H
                   have c37b0 : decide (x6_2 < (((rd_T43 l0 x4_1).f1).length : Int)) = true := decide_eq_true c37
                   clear c37
                   replace H := Option.bind_eq_some_iff.mp H
                   obtain ⟨t116, A380, H⟩ := H
                   replace H : (if t116 = true then (truantref03_Check.l1 k3 l0 x4_1 (wrap64 (x6_2 + 1)) ((rd_T43 l0 x4_1).f0) ((rd_T43 l0 x4_1).f1)) else (some (x4_1, 7))) = some (r1, r2) := H
                   have A38 := Aside0.mk A380
                   clear A380
                   by_cases c39 : t116 = true
                   ·subst c39
                    have H1 : (truantref03_Check.l1 k3 l0 x4_1 (wrap64 (x6_2 + 1)) ((rd_T43 l0 x4_1).f0) ((rd_T43 l0 x4_1).f1)) = some (r1, r2) := by rw [if_pos rfl] at H; exact H
                    clear H
                    have H := H1
                    clear H1
                    have H' := Aside0.mk H
                    clear H
                    have hcz40_0 : wr.cell? ⟨gb108, 0, none⟩ = some (.string ((rd_T43 l0 x4_1).f0)) := (blk_cell BK108.out 0).trans rfl
                    have hcz40_1 : wr.cell? ⟨gb108, 1, none⟩ = some (.slice (some ad111) ((rd_T43 l0 x4_1).f1).length c107_1) := (blk_cell BK108.out 1).trans rfl
                    have hfz40_0 := blk_frozen BK108.out 0
                    have hfz40_1 := blk_frozen BK108.out 1
                    have p115 : 0 ≤ (x6_2 : Int) := of_decide_eq_true (by first | (with_reducible assumption) | assumption)
                    have q115 : x6_2 < (((rd_T43 l0 x4_1).f1).length : Int) := of_decide_eq_true (by first | (with_reducible assumption) | assumption)
                    obtain ⟨ad115, e115, hx115_0, hx115_1⟩ := at_T48 HR107_1.out x6_2 p115 q115
                    obtain rfl : ad111 = ad115 := (by injection e115)
                    replace hx115_0 := (HB.out.cell (World.block_lt_of_cell? w _ hx115_0)).trans hx115_0
                    replace hx115_1 := (HB.out.cell (World.block_lt_of_cell? w _ hx115_1)).trans hx115_1
                    replace p115 := eq_true p115
                    replace q115 := eq_true q115
                    go_wp2_with (first | (go_at_call 22; (with_reducible refine (truantref03_Is.calls k3 _ _ l0 ((rd_T48 ((rd_T43 l0 x4_1).f1) x6_2).f1) true _ ?side1 ?side2 A38.out).mono ?_); (case side1 => repeat (first | exact (Kd.C_below HR0.out HB.out) | (with_reducible refine Kd.C_alloc ?_ _) | (with_reducible refine Kd.C_drewN ?_ _) | (with_reducible refine Kd.C_drew ?_))); (case side2 => exact HC0.out); rintro e w' ⟨rfl, ⟨nd, rfl⟩⟩; (try first | exact ⟨rfl, _, World.drewN_drewN _ _ _⟩ | exact ⟨rfl, _, Eq.trans (World.drewN_drewN _ _ _) (congrArg (World.drewN _) (Nat.add_assoc _ _ _))⟩)))
                    repeat (go_quiet (first | (go_at_call 22; (with_reducible refine (truantref03_Is.calls k3 _ _ l0 ((rd_T48 ((rd_T43 l0 x4_1).f1) x6_2).f1) true _ ?side1 ?side2 A38.out).mono ?_); clear A38; (case side1 => repeat (first | exact (Kd.C_below HR0.out HB.out) | (with_reducible refine Kd.C_alloc ?_ _) | (with_reducible refine Kd.C_drewN ?_ _) | (with_reducible refine Kd.C_drew ?_))); (case side2 => exact HC0.out); rintro e w' ⟨rfl, ⟨nd, rfl⟩⟩; (try first | exact ⟨rfl, _, World.drewN_drewN _ _ _⟩ | exact ⟨rfl, _, Eq.trans (World.drewN_drewN _ _ _) (congrArg (World.drewN _) (Nat.add_assoc _ _ _))⟩))); try go_wp2_with (first | (go_at_call 22; (with_reducible refine (truantref03_Is.calls k3 _ _ l0 ((rd_T48 ((rd_T43 l0 x4_1).f1) x6_2).f1) true _ ?side1 ?side2 A38.out).mono ?_); clear A38; (case side1 => repeat (first | exact (Kd.C_below HR0.out HB.out) | (with_reducible refine Kd.C_alloc ?_ _) | (with_reducible refine Kd.C_drewN ?_ _) | (with_reducible refine Kd.C_drew ?_))); (case side2 => exact HC0.out); rintro e w' ⟨rfl, ⟨nd, rfl⟩⟩; (try first | exact ⟨rfl, _, World.drewN_drewN _ _ _⟩ | exact ⟨rfl, _, Eq.trans (World.drewN_drewN _ _ _) (congrArg (World.drewN _) (Nat.add_assoc _ _ _))⟩))))
                    go_roundg k3
                    case measure => have := HK1.out; have := HK2.out; have := HK3.out; omega
                    case rel => exact ⟨(wrap64 (x6_2 + 1)), (by first | rfl | (simp; done) | (simp [*]; done)), H', ⟨by have := HK1.out; have := HK2.out; have := HK3.out; omega⟩, ⟨by (with_reducible repeat (first | refine blk_drewN ?_ _ | refine blk_drew ?_ | refine blk_alloc ?_ _)); exact BK108.out⟩, ⟨by repeat (first | (with_reducible first | exact HB.out | apply below_alloc | apply pw_below_drewN | apply below_drew1 | refine below_set ?_ GE108.out) | exact HB.out)⟩⟩
                   ·replace c39 := Bool.eq_false_iff.mpr c39
                    subst c39
                    have H1 : (some (x4_1, 7)) = some (r1, r2) := by rw [if_neg (show ¬ (false = true) by decide)] at H; exact H
                    clear H
                    have H := H1
                    clear H1
                    simp only [Option.some.injEq, Prod.mk.injEq] at H
                    obtain ⟨rfl, rfl⟩ := H
                    have hcz41_0 : wr.cell? ⟨gb108, 0, none⟩ = some (.string ((rd_T43 l0 x4_1).f0)) := (blk_cell BK108.out 0).trans rfl
                    have hcz41_1 : wr.cell? ⟨gb108, 1, none⟩ = some (.slice (some ad111) ((rd_T43 l0 x4_1).f1).length c107_1) := (blk_cell BK108.out 1).trans rfl
                    have hfz41_0 := blk_frozen BK108.out 0
                    have hfz41_1 := blk_frozen BK108.out 1
                    have p115 : 0 ≤ (x6_2 : Int) := of_decide_eq_true (by first | (with_reducible assumption) | assumption)
                    have q115 : x6_2 < (((rd_T43 l0 x4_1).f1).length : Int) := of_decide_eq_true (by first | (with_reducible assumption) | assumption)
                    obtain ⟨ad115, e115, hx115_0, hx115_1⟩ := at_T48 HR107_1.out x6_2 p115 q115
                    obtain rfl : ad111 = ad115 := (by injection e115)
                    replace hx115_0 := (HB.out.cell (World.block_lt_of_cell? w _ hx115_0)).trans hx115_0
                    replace hx115_1 := (HB.out.cell (World.block_lt_of_cell? w _ hx115_1)).trans hx115_1
                    replace p115 := eq_true p115
                    replace q115 := eq_true q115
                    go_wp2_with (first | (go_at_call 22; (with_reducible refine (truantref03_Is.calls k3 _ _ l0 ((rd_T48 ((rd_T43 l0 x4_1).f1) x6_2).f1) false _ ?side1 ?side2 A38.out).mono ?_); (case side1 => repeat (first | exact (Kd.C_below HR0.out HB.out) | (with_reducible refine Kd.C_alloc ?_ _) | (with_reducible refine Kd.C_drewN ?_ _) | (with_reducible refine Kd.C_drew ?_))); (case side2 => exact HC0.out); rintro e w' ⟨rfl, ⟨nd, rfl⟩⟩; (try first | exact ⟨rfl, _, World.drewN_drewN _ _ _⟩ | exact ⟨rfl, _, Eq.trans (World.drewN_drewN _ _ _) (congrArg (World.drewN _) (Nat.add_assoc _ _ _))⟩)))
                    repeat (go_quiet (first | (go_at_call 22; (with_reducible refine (truantref03_Is.calls k3 _ _ l0 ((rd_T48 ((rd_T43 l0 x4_1).f1) x6_2).f1) false _ ?side1 ?side2 A38.out).mono ?_); clear A38; (case side1 => repeat (first | exact (Kd.C_below HR0.out HB.out) | (with_reducible refine Kd.C_alloc ?_ _) | (with_reducible refine Kd.C_drewN ?_ _) | (with_reducible refine Kd.C_drew ?_))); (case side2 => exact HC0.out); rintro e w' ⟨rfl, ⟨nd, rfl⟩⟩; (try first | exact ⟨rfl, _, World.drewN_drewN _ _ _⟩ | exact ⟨rfl, _, Eq.trans (World.drewN_drewN _ _ _) (congrArg (World.drewN _) (Nat.add_assoc _ _ _))⟩))); try go_wp2_with (first | (go_at_call 22; (with_reducible refine (truantref03_Is.calls k3 _ _ l0 ((rd_T48 ((rd_T43 l0 x4_1).f1) x6_2).f1) false _ ?side1 ?side2 A38.out).mono ?_); clear A38; (case side1 => repeat (first | exact (Kd.C_below HR0.out HB.out) | (with_reducible refine Kd.C_alloc ?_ _) | (with_reducible refine Kd.C_drewN ?_ _) | (with_reducible refine Kd.C_drew ?_))); (case side2 => exact HC0.out); rintro e w' ⟨rfl, ⟨nd, rfl⟩⟩; (try first | exact ⟨rfl, _, World.drewN_drewN _ _ _⟩ | exact ⟨rfl, _, Eq.trans (World.drewN_drewN _ _ _) (congrArg (World.drewN _) (Nat.add_assoc _ _ _))⟩))))
                    go_ret2
                    exact ⟨by first | rfl | (simp [errW_none, errW_some] <;> rfl) | (simp [*, errW_none, errW_some] <;> rfl), by repeat (first | (with_reducible first | exact HB.out | apply below_alloc | apply pw_below_drewN | apply below_drew1 | refine below_set ?_ GE108.out) | exact HB.out)⟩
                  ·rw [if_neg c37] at H
                   exact absurd H (by simp)
                 ·rw [if_neg c36] at H
                  exact absurd H (by simp)
             ·replace c25 := Bool.eq_false_iff.mpr c25
              subst c25
              have H1 : (some (x4_1, 1)) = some (r1, r2) := by rw [if_neg (show ¬ (false = true) by decide)] at H; exact H
              clear H
              have H := H1
              clear H1
              simp only [Option.some.injEq, Prod.mk.injEq] at H
              obtain ⟨rfl, rfl⟩ := H
              have hcz42_0 : wr.cell? ⟨gb108, 0, none⟩ = some (.string ((rd_T43 l0 x4_1).f0)) := (blk_cell BK108.out 0).trans rfl
              have hcz42_1 : wr.cell? ⟨gb108, 1, none⟩ = some (.slice A107_1 ((rd_T43 l0 x4_1).f1).length c107_1) := (blk_cell BK108.out 1).trans rfl
              have hfz42_0 := blk_frozen BK108.out 0
              have hfz42_1 := blk_frozen BK108.out 1
              have p111 : 0 ≤ (x6_2 : Int) := of_decide_eq_true (by first | (with_reducible assumption) | assumption)
              have q111 : x6_2 < (((rd_T43 l0 x4_1).f1).length : Int) := of_decide_eq_true (by first | (with_reducible assumption) | assumption)
              obtain ⟨ad111, e111, hx111_0, hx111_1⟩ := at_T48 HR107_1.out x6_2 p111 q111
              cases e111
              replace hx111_0 := (HB.out.cell (World.block_lt_of_cell? w _ hx111_0)).trans hx111_0
              replace hx111_1 := (HB.out.cell (World.block_lt_of_cell? w _ hx111_1)).trans hx111_1
              replace p111 := eq_true p111
              replace q111 := eq_true q111
              go_wp2_with (first | (go_at_call 70; (with_reducible refine (truantref02_Word.calls k2 ((rd_T48 ((rd_T43 l0 x4_1).f1) x6_2).f0) false _ A24.out).mono ?_); rintro e w43 ⟨rfl, hb⟩; have n0_ := Aside0.mk (blk_below (g := gb108) (o := .cells #[.string ((rd_T43 l0 x4_1).f0), .slice (some ad111) ((rd_T43 l0 x4_1).f1).length c107_1] 43 (0, 0)) (by (with_reducible repeat (first | refine blk_drewN ?_ _ | refine blk_drew ?_ | refine blk_alloc ?_ _)); exact BK108.out) hb); have n1_ := Aside0.mk (below_step (by repeat (first | (with_reducible first | exact HB.out | apply below_alloc | apply pw_below_drewN | apply below_drew1 | refine below_set ?_ GE108.out) | exact HB.out)) hb); clear BK108; clear HB; have BK108 := n0_; have HB := n1_; clear n0_ n1_; (try clear hb); (try clear hb2); (try clear hk); (try clear hi)))
              repeat (go_quiet (first | (go_at_call 70; (with_reducible refine (truantref02_Word.calls k2 ((rd_T48 ((rd_T43 l0 x4_1).f1) x6_2).f0) false _ A24.out).mono ?_); clear A24; rintro e w43 ⟨rfl, hb⟩; have n0_ := Aside0.mk (blk_below (g := gb108) (o := .cells #[.string ((rd_T43 l0 x4_1).f0), .slice (some ad111) ((rd_T43 l0 x4_1).f1).length c107_1] 43 (0, 0)) (by (with_reducible repeat (first | refine blk_drewN ?_ _ | refine blk_drew ?_ | refine blk_alloc ?_ _)); exact BK108.out) hb); have n1_ := Aside0.mk (below_step (by repeat (first | (with_reducible first | exact HB.out | apply below_alloc | apply pw_below_drewN | apply below_drew1 | refine below_set ?_ GE108.out) | exact HB.out)) hb); clear BK108; clear HB; have BK108 := n0_; have HB := n1_; clear n0_ n1_; (try clear hb); (try clear hb2); (try clear hk); (try clear hi))); try go_wp2_with (first | (go_at_call 70; (with_reducible refine (truantref02_Word.calls k2 ((rd_T48 ((rd_T43 l0 x4_1).f1) x6_2).f0) false _ A24.out).mono ?_); clear A24; rintro e w43 ⟨rfl, hb⟩; have n0_ := Aside0.mk (blk_below (g := gb108) (o := .cells #[.string ((rd_T43 l0 x4_1).f0), .slice (some ad111) ((rd_T43 l0 x4_1).f1).length c107_1] 43 (0, 0)) (by (with_reducible repeat (first | refine blk_drewN ?_ _ | refine blk_drew ?_ | refine blk_alloc ?_ _)); exact BK108.out) hb); have n1_ := Aside0.mk (below_step (by repeat (first | (with_reducible first | exact HB.out | apply below_alloc | apply pw_below_drewN | apply below_drew1 | refine below_set ?_ GE108.out) | exact HB.out)) hb); clear BK108; clear HB; have BK108 := n0_; have HB := n1_; clear n0_ n1_; (try clear hb); (try clear hb2); (try clear hk); (try clear hi))))
              go_ret2
              exact ⟨by first | rfl | (simp [errW_none, errW_some] <;> rfl) | (simp [*, errW_none, errW_some] <;> rfl), by repeat (first | (with_reducible first | exact HB.out | apply below_alloc | apply pw_below_drewN | apply below_drew1 | refine below_set ?_ GE108.out) | exact HB.out)⟩
            ·rw [if_neg c23] at H
             exact absurd H (by simp)
           ·rw [if_neg c22] at H
            have c22b0 : decide (x6_2 < (((rd_T43 l0 x4_1).f1).length : Int)) = false := decide_eq_false c22
            clear c22
            have H' := Aside0.mk H
            clear H
            have hcz44_0 : wr.cell? ⟨gb108, 0, none⟩ = some (.string ((rd_T43 l0 x4_1).f0)) := (blk_cell BK108.out 0).trans rfl
            have hcz44_1 : wr.cell? ⟨gb108, 1, none⟩ = some (.slice A107_1 ((rd_T43 l0 x4_1).f1).length c107_1) := (blk_cell BK108.out 1).trans rfl
            have hfz44_0 := blk_frozen BK108.out 0
            have hfz44_1 := blk_frozen BK108.out 1
            go_wp2
            repeat (go_quiet (fail); try go_wp2)
            go_roundg k2
            case measure => have := HK1.out; have := HK2.out; omega
            case rel => exact ⟨(wrap64 (x4_1 + 1)), (by first | rfl | (simp; done) | (simp [*]; done)), H', ⟨by have := HK1.out; have := HK2.out; omega⟩, ⟨by repeat (first | (with_reducible first | exact HB.out | apply below_alloc | apply pw_below_drewN | apply below_drew1 | refine below_set ?_ GE108.out) | exact HB.out)⟩⟩
      ·replace c6 := Bool.eq_false_iff.mpr c6
       subst c6
       have H1 : (some (x4_1, 1)) = some (r1, r2) := by rw [if_neg (show ¬ (false = true) by decide)] at H; exact H
       clear H
       have H := H1
       clear H1
       simp only [Option.some.injEq, Prod.mk.injEq] at H
       obtain ⟨rfl, rfl⟩ := H
       have p107 : 0 ≤ (x4_1 : Int) := of_decide_eq_true (by first | (with_reducible assumption) | assumption)
       have q107 : x4_1 < (l0.length : Int) := of_decide_eq_true (by first | (with_reducible assumption) | assumption)
       obtain ⟨ad107, A107_1, c107_1, e107, hx107_0, hx107_1, hl107_1, hi107_1⟩ := at_T43 HR0.out x4_1 p107 q107
       cases e107
       replace hx107_0 := (HB.out.cell (World.block_lt_of_cell? w _ hx107_0)).trans hx107_0
       replace hx107_1 := (HB.out.cell (World.block_lt_of_cell? w _ hx107_1)).trans hx107_1
       have HR107_1 := Aside0.mk hi107_1
       have HC107_1 := Aside0.mk hl107_1
       clear hi107_1 hl107_1
       replace p107 := eq_true p107
       replace q107 := eq_true q107
       go_wp2_with (first | ((with_reducible refine gate_dst (N := 5) rfl ?_); refine box_event ?hg (N := 5) ?hd (cs := #[.string (⟨#[]⟩ : ByteArray), .slice none 0 0]) (t := 43) ?hr ?_; (case hd => rfl); (case hg => rfl); (case hr => first | (go_simp; done) | (go_simp; rfl)); intro gb108 hg w45 hbox hb; have n0_ := Aside0.mk (below_step (by repeat (first | (with_reducible first | exact HB.out | apply below_alloc | apply pw_below_drewN | apply below_drew1) | exact HB.out)) hb); have n1_ := Aside0.mk (hbox); have n2_ := Aside0.mk ((by rw [hg]; exact (below_size (by repeat (first | (with_reducible first | exact HB.out | apply below_alloc | apply pw_below_drewN | apply below_drew1) | exact HB.out))) : w.heap.size ≤ gb108)); have n3_ := Aside0.mk ((by rw [hg]; exact (below_size (by repeat (first | (with_reducible first | exact HB.out | apply below_alloc | apply pw_below_drewN | apply below_drew1) | exact HB.out))) : w.heap.size ≤ gb108)); clear HB; have HB := n0_; have BK108 := n1_; have GW108 := n2_; have GE108 := n3_; clear n0_ n1_ n2_ n3_; clear hb hbox hg; have hcz46_0 : w45.cell? ⟨gb108, 0, none⟩ = some (.string (⟨#[]⟩ : ByteArray)) := (blk_cell BK108.out 0).trans rfl; have hcz46_1 : w45.cell? ⟨gb108, 1, none⟩ = some (.slice none 0 0) := (blk_cell BK108.out 1).trans rfl; have hfz46_0 := blk_frozen BK108.out 0; have hfz46_1 := blk_frozen BK108.out 1) | (go_at_call 70; (with_reducible refine (truantref02_Word.calls k1 ((rd_T43 l0 x4_1).f0) false _ A5.out).mono ?_); rintro e w47 ⟨rfl, hb⟩; have n0_ := Aside0.mk (blk_below (g := gb108) (o := .cells #[.string ((rd_T43 l0 x4_1).f0), .slice A107_1 ((rd_T43 l0 x4_1).f1).length c107_1] 43 (0, 0)) (by (with_reducible repeat (first | refine blk_drewN ?_ _ | refine blk_drew ?_ | refine blk_alloc ?_ _)); refine blk_put (cs := #[.string ((rd_T43 l0 x4_1).f0), .slice none 0 0]) ?_ 1 _ rfl; (with_reducible repeat (first | refine blk_drewN ?_ _ | refine blk_drew ?_ | refine blk_alloc ?_ _)); refine blk_put (cs := #[.string (⟨#[]⟩ : ByteArray), .slice none 0 0]) ?_ 0 _ rfl; (with_reducible repeat (first | refine blk_drewN ?_ _ | refine blk_drew ?_ | refine blk_alloc ?_ _)); exact BK108.out) hb); have n1_ := Aside0.mk (below_step (by repeat (first | (with_reducible first | exact HB.out | apply below_alloc | apply pw_below_drewN | apply below_drew1 | refine below_set ?_ GE108.out) | exact HB.out)) hb); clear BK108; clear HB; have BK108 := n0_; have HB := n1_; clear n0_ n1_; (try clear hb); (try clear hb2); (try clear hk); (try clear hi)))
       repeat (go_quiet (first | ((with_reducible refine gate_dst (N := 5) rfl ?_); refine box_event ?hg (N := 5) ?hd (cs := #[.string (⟨#[]⟩ : ByteArray), .slice none 0 0]) (t := 43) ?hr ?_; (case hd => rfl); (case hg => rfl); (case hr => first | (go_simp; done) | (go_simp; rfl)); intro gb108 hg w45 hbox hb; have n0_ := Aside0.mk (below_step (by repeat (first | (with_reducible first | exact HB.out | apply below_alloc | apply pw_below_drewN | apply below_drew1) | exact HB.out)) hb); have n1_ := Aside0.mk (hbox); have n2_ := Aside0.mk ((by rw [hg]; exact (below_size (by repeat (first | (with_reducible first | exact HB.out | apply below_alloc | apply pw_below_drewN | apply below_drew1) | exact HB.out))) : w.heap.size ≤ gb108)); have n3_ := Aside0.mk ((by rw [hg]; exact (below_size (by repeat (first | (with_reducible first | exact HB.out | apply below_alloc | apply pw_below_drewN | apply below_drew1) | exact HB.out))) : w.heap.size ≤ gb108)); clear HB; have HB := n0_; have BK108 := n1_; have GW108 := n2_; have GE108 := n3_; clear n0_ n1_ n2_ n3_; clear hb hbox hg; have hcz46_0 : w45.cell? ⟨gb108, 0, none⟩ = some (.string (⟨#[]⟩ : ByteArray)) := (blk_cell BK108.out 0).trans rfl; have hcz46_1 : w45.cell? ⟨gb108, 1, none⟩ = some (.slice none 0 0) := (blk_cell BK108.out 1).trans rfl; have hfz46_0 := blk_frozen BK108.out 0; have hfz46_1 := blk_frozen BK108.out 1) | (go_at_call 70; (with_reducible refine (truantref02_Word.calls k1 ((rd_T43 l0 x4_1).f0) false _ A5.out).mono ?_); clear A5; rintro e w47 ⟨rfl, hb⟩; have n0_ := Aside0.mk (blk_below (g := gb108) (o := .cells #[.string ((rd_T43 l0 x4_1).f0), .slice A107_1 ((rd_T43 l0 x4_1).f1).length c107_1] 43 (0, 0)) (by (with_reducible repeat (first | refine blk_drewN ?_ _ | refine blk_drew ?_ | refine blk_alloc ?_ _)); refine blk_put (cs := #[.string ((rd_T43 l0 x4_1).f0), .slice none 0 0]) ?_ 1 _ rfl; (with_reducible repeat (first | refine blk_drewN ?_ _ | refine blk_drew ?_ | refine blk_alloc ?_ _)); refine blk_put (cs := #[.string (⟨#[]⟩ : ByteArray), .slice none 0 0]) ?_ 0 _ rfl; (with_reducible repeat (first | refine blk_drewN ?_ _ | refine blk_drew ?_ | refine blk_alloc ?_ _)); exact BK108.out) hb); have n1_ := Aside0.mk (below_step (by repeat (first | (with_reducible first | exact HB.out | apply below_alloc | apply pw_below_drewN | apply below_drew1 | refine below_set ?_ GE108.out) | exact HB.out)) hb); clear BK108; clear HB; have BK108 := n0_; have HB := n1_; clear n0_ n1_; (try clear hb); (try clear hb2); (try clear hk); (try clear hi))); try go_wp2_with (first | ((with_reducible refine gate_dst (N := 5) rfl ?_); refine box_event ?hg (N := 5) ?hd (cs := #[.string (⟨#[]⟩ : ByteArray), .slice none 0 0]) (t := 43) ?hr ?_; (case hd => rfl); (case hg => rfl); (case hr => first | (go_simp; done) | (go_simp; rfl)); intro gb108 hg w45 hbox hb; have n0_ := Aside0.mk (below_step (by repeat (first | (with_reducible first | exact HB.out | apply below_alloc | apply pw_below_drewN | apply below_drew1) | exact HB.out)) hb); have n1_ := Aside0.mk (hbox); have n2_ := Aside0.mk ((by rw [hg]; exact (below_size (by repeat (first | (with_reducible first | exact HB.out | apply below_alloc | apply pw_below_drewN | apply below_drew1) | exact HB.out))) : w.heap.size ≤ gb108)); have n3_ := Aside0.mk ((by rw [hg]; exact (below_size (by repeat (first | (with_reducible first | exact HB.out | apply below_alloc | apply pw_below_drewN | apply below_drew1) | exact HB.out))) : w.heap.size ≤ gb108)); clear HB; have HB := n0_; have BK108 := n1_; have GW108 := n2_; have GE108 := n3_; clear n0_ n1_ n2_ n3_; clear hb hbox hg; have hcz46_0 : w45.cell? ⟨gb108, 0, none⟩ = some (.string (⟨#[]⟩ : ByteArray)) := (blk_cell BK108.out 0).trans rfl; have hcz46_1 : w45.cell? ⟨gb108, 1, none⟩ = some (.slice none 0 0) := (blk_cell BK108.out 1).trans rfl; have hfz46_0 := blk_frozen BK108.out 0; have hfz46_1 := blk_frozen BK108.out 1) | (go_at_call 70; (with_reducible refine (truantref02_Word.calls k1 ((rd_T43 l0 x4_1).f0) false _ A5.out).mono ?_); clear A5; rintro e w47 ⟨rfl, hb⟩; have n0_ := Aside0.mk (blk_below (g := gb108) (o := .cells #[.string ((rd_T43 l0 x4_1).f0), .slice A107_1 ((rd_T43 l0 x4_1).f1).length c107_1] 43 (0, 0)) (by (with_reducible repeat (first | refine blk_drewN ?_ _ | refine blk_drew ?_ | refine blk_alloc ?_ _)); refine blk_put (cs := #[.string ((rd_T43 l0 x4_1).f0), .slice none 0 0]) ?_ 1 _ rfl; (with_reducible repeat (first | refine blk_drewN ?_ _ | refine blk_drew ?_ | refine blk_alloc ?_ _)); refine blk_put (cs := #[.string (⟨#[]⟩ : ByteArray), .slice none 0 0]) ?_ 0 _ rfl; (with_reducible repeat (first | refine blk_drewN ?_ _ | refine blk_drew ?_ | refine blk_alloc ?_ _)); exact BK108.out) hb); have n1_ := Aside0.mk (below_step (by repeat (first | (with_reducible first | exact HB.out | apply below_alloc | apply pw_below_drewN | apply below_drew1 | refine below_set ?_ GE108.out) | exact HB.out)) hb); clear BK108; clear HB; have BK108 := n0_; have HB := n1_; clear n0_ n1_; (try clear hb); (try clear hb2); (try clear hk); (try clear hi))))
       go_ret2
       exact ⟨by first | rfl | (simp [errW_none, errW_some] <;> rfl) | (simp [*, errW_none, errW_some] <;> rfl), by repeat (first | (with_reducible first | exact HB.out | apply below_alloc | apply pw_below_drewN | apply below_drew1 | refine below_set ?_ GE108.out) | exact HB.out)⟩
     ·rw [if_neg c4] at H
      exact absurd H (by simp)
    ·rw [if_neg c3] at H
     have c3b0 : decide (x4_1 < (l0.length : Int)) = false := decide_eq_false c3
     clear c3
     simp only [Option.some.injEq, Prod.mk.injEq] at H
     obtain ⟨rfl, rfl⟩ := H
     go_wp2
     repeat (go_quiet (fail); try go_wp2)
     go_ret2
     exact ⟨by first | rfl | (simp [errW_none, errW_some] <;> rfl) | (simp [*, errW_none, errW_some] <;> rfl), by repeat (first | (with_reducible first | exact HB.out | apply below_alloc | apply pw_below_drewN | apply below_drew1) | exact HB.out)⟩
end Go.Proofs.Ytonmlncejikbiaa.Q
/- The plain law of layer 3, kind: what the printed functions come to. -/
namespace Go.Proofs.Ytonmlncejikbiaa.Q
open Go.RowKit Go.Proofs.YtonmlncejikbiaaW.PrintWords Go.Proofs.YtonmlncejikbiaaW.PrintLast Go.Proofs.YtonmlncejikbiaaW.PrintMore
set_option linter.unusedVariables false
set_option linter.unusedSimpArgs false
/-! words -/
theorem index_ev (l : List ByteArray) (s : ByteArray) (hm : l.length ≤ 9223372036854775807) (d : Nat) : ∀ i : Nat, i ≤ l.length → l.length - i = d → (∀ j : Nat, j < i → keyIs s (l.getD j ByteArray.empty) = false) →
  Ev (fun k => slices_Index_string_string.l0 k l s (l.length : Int) (i : Int)) (findR (keyIs s) l) := by
 induction d with
 | zero =>
  intro i h0 hd h
  refine Ev.step (fun k => rfl) (Ev.neg (by omega) ?_)
  rw [find_none (z := ByteArray.empty) (fun j hj => h j (by omega))]
  exact Ev.now _
 | succ d ih =>
  intro i h0 hd h
  refine Ev.step (fun k => rfl) (Ev.pos (by omega) (Ev.pos (by omega) (Ev.pos (by omega) ?_)))
  by_cases e : keyIs s (l.getD i ByteArray.empty) = true
  ·have e2 : s.toList = (rdOf ByteArray.empty l (i : Int)).toList := (beq_iff_eq.mp e).symm
   refine Ev.pos e2 ?_
   rw [find_last (z := ByteArray.empty) (k := i) (by omega) h e]
   exact Ev.now _
  ·have e2 : ¬ s.toList = (rdOf ByteArray.empty l (i : Int)).toList := fun q => e (beq_iff_eq.mpr q.symm)
   refine Ev.neg e2 ?_
   rw [wrap_succ (by omega) (by omega)]
   exact ih (i + 1) (by omega) (by omega) (all_succ (P := fun j => keyIs s (l.getD j ByteArray.empty) = false) h (by simpa using e))
def keyB (s : ByteArray) : Bool := decide (0 ≤ findR (keyIs s) keyList)
theorem isKey_ev (s : ByteArray) : Ev (fun k => lex_IsKey.f k s) (keyB s) := by
 have h := index_ev keyList s (by decide) 16 0 (by decide) (by decide) (fun j hj => absurd hj (by omega))
 have h2 : Ev (fun k => slices_Contains_string_string.f k keyList s) (keyB s) := Ev.bind h (Ev.now _)
 exact Ev.one (a := lex_keys.f) (b := keyList) rfl (Ev.bind h2 (Ev.now _))
def wordB (s : ByteArray) : Bool := nameB s && (decide (s.size ≤ 12) && !keyB s)
theorem isWord_ev (s : ByteArray) (hs : s.size ≤ 9223372036854775807) : Ev (fun k => lex_IsWord.f k s) (wordB s) := by
 refine Ev.one (a := lex_isName.f s) (b := nameB s) (by unfold lex_isName.f; rw [if_pos hs]) ?_
 unfold wordB
 cases nameB s with
 | false => exact Ev.neg (by decide) (Ev.now _)
 | true =>
  refine Ev.pos rfl ?_
  by_cases h : s.size ≤ 12
  ·refine Ev.pos (by omega) (Ev.eq (Ev.bind (isKey_ev s) (Ev.now _)) (by simp [h]))
  ·refine Ev.neg (by omega) (Ev.eq (Ev.now _) (by simp [h]))
/-! types -/
/-- Behind the star, if that is a word. -/
def rest (t : ByteArray) : ByteArray := t.extract 1 t.size
def starB (t : ByteArray) : Bool := decide (0 < t.size) && (bt t 0 == 42)
theorem cutPrefix_one (t : ByteArray) : strings_CutPrefix.f t (⟨#[42]⟩ : ByteArray) = some (if starB t = true then (rest t, true) else (t, false)) := by
 have e1 : ((⟨#[42]⟩ : ByteArray).size : Int) = 1 := rfl
 have e2 : (⟨#[42]⟩ : ByteArray).toList = [42] := by rw [ByteArray.toList_eq]
 unfold strings_CutPrefix.f stringslite_CutPrefix.f stringslite_HasPrefix.f
 rw [e1, e2]
 by_cases h0 : 0 < t.size
 ·have hb : ((t.extract 0 (1 : Int).toNat).toList == [42]) = starB t := by
   obtain ⟨⟨l⟩⟩ := t
   cases l with
   | nil => simp [ByteArray.size] at h0
   | cons x l =>
    have e3 : (ByteArray.extract ⟨⟨x :: l⟩⟩ 0 (1 : Int).toNat).toList = [x] := by
     rw [Lib.extract_toList]; rfl
    have e4 : bt ⟨⟨x :: l⟩⟩ 0 = (x.toNat : Int) := (bt_at ⟨⟨x :: l⟩⟩ 0 (by simpa using h0)).symm
    unfold starB
    rw [e3, e4]
    simp only [h0, decide_true, Bool.true_and]
    by_cases hx : x = 42
    ·subst hx; rfl
    ·rw [beq_eq_false_iff_ne.mpr (by simpa using hx), beq_eq_false_iff_ne.mpr]
     intro q
     apply hx
     apply UInt8.toNat_inj.mp
     have e42 : (42 : UInt8).toNat = 42 := rfl
     omega
  rw [if_pos (by omega), if_pos (by omega), if_pos (by omega), hb]
  simp only [Option.bind_some]
  cases starB t with
  | true => rw [if_pos rfl, if_pos (by omega), if_pos (by omega)]; rfl
  | false => rw [if_neg (by decide)]; rfl
 ·have : starB t = false := by unfold starB; simp [h0]
  rw [if_neg (by omega), this]
  rfl
def isS (l : List S43) (t : ByteArray) : Bool := t.toList == [105, 110, 116] || (t.toList == [98, 111, 111, 108] || (starB t && decide (0 ≤ findR (nameIs (rest t)) l)))
theorem is_ev (l : List S43) (t : ByteArray) : Ev (fun k => kind_Is.f k l t) (isS l t) := by
 have jt : Ev (fun k => kind_Is.j0 k l t true) true := Ev.step (f := fun _ => some true) (fun k => rfl) (Ev.now _)
 unfold isS
 by_cases h1 : t.toList = [105, 110, 116]
 ·exact Ev.pos h1 (Ev.eq jt (by rw [h1]; rfl))
 ·refine Ev.neg h1 ?_
  rw [beq_eq_false_iff_ne.mpr h1, Bool.false_or]
  by_cases h2 : t.toList = [98, 111, 111, 108]
  ·rw [beq_iff_eq.mpr h2]; exact Ev.eq jt (by simp)
  ·rw [beq_eq_false_iff_ne.mpr h2, Bool.false_or]
   refine Ev.step (f := fun k => (strings_CutPrefix.f t (⟨#[42]⟩ : ByteArray)).bind fun bt118 => (if bt118.2 = true then ((kind_Find.f l bt118.1).bind fun bt120 => (some bt120.2)) else (some false))) (fun k => rfl) ?_
   rw [cutPrefix_one]
   cases hs : starB t with
   | false => exact Ev.now _
   | true =>
    refine Ev.eq (Ev.now _) ?_
    unfold placeOf
    by_cases h : findR (nameIs (rest t)) l < 0
    ·rw [if_pos rfl, if_pos h]
     simp; omega
    ·rw [if_pos rfl, if_neg h]
     simp; omega
def fieldS (l : List S43) (ahead : List S48) (a b : ByteArray) : Int := if wordB a = true then (if 0 ≤ findR (fnameIs a) ahead then 6 else if isS l b = true then 0 else 7) else 1
theorem field_ev (l : List S43) (ahead : List S48) (a b : ByteArray) (ha : a.size ≤ 9223372036854775807) : Ev (fun k => kind_field.f k l ahead a b) (fieldS l ahead a b) := by
 refine Ev.bind (isWord_ev a ha) ?_
 unfold fieldS
 cases wordB a with
 | false => exact Ev.neg (by decide) (Ev.now _)
 | true =>
  refine Ev.pos rfl ?_
  rw [if_pos rfl]
  by_cases h : 0 ≤ findR (fnameIs a) ahead
  ·rw [if_pos h]; exact Ev.pos h (Ev.now _)
  ·rw [if_neg h]
   refine Ev.neg h (Ev.bind (is_ev l b) ?_)
   cases isS l b with
   | true => exact Ev.pos rfl (Ev.now _)
   | false => exact Ev.neg (by decide) (Ev.now _)
def fieldsD (l : List S43) (fs : List S48) : Nat → Nat → Int
 | 0, _ => 0
 | d + 1, j => if fieldS l (fs.take j) (fs.getD j z48).f0 (fs.getD j z48).f1 = 0 then fieldsD l fs d (j + 1) else fieldS l (fs.take j) (fs.getD j z48).f0 (fs.getD j z48).f1
def oneS (l : List S43) (i : Nat) : Int :=
 if wordB (l.getD i z43).f0 = true then (if findR (nameIs (l.getD i z43).f0) l < (i : Int) then 6 else if (l.getD i z43).f1.length > 8 then 4 else fieldsD l (l.getD i z43).f1 (l.getD i z43).f1.length 0) else 1
def checkD (l : List S43) : Nat → Nat → Int × Int
 | 0, _ => (0, 0)
 | d + 1, i => if oneS l i = 0 then checkD l d (i + 1) else ((i : Int), oneS l i)
def checkS (l : List S43) : Int × Int := if l.length > 12 then (0, 4) else checkD l l.length 0
/-- The sizes that came in. -/
structure Sz (l : List S43) : Prop where
 len : l.length ≤ 4398046511104
 fields : ∀ j : Nat, j < l.length → (l.getD j z43).f1.length ≤ 4398046511104
 names : ∀ j : Nat, j < l.length → (l.getD j z43).f0.size ≤ 140737488351232
 fnames : ∀ j q : Nat, j < l.length → q < (l.getD j z43).f1.length → ((l.getD j z43).f1.getD q z48).f0.size ≤ 140737488351232
 types : ∀ j q : Nat, j < l.length → q < (l.getD j z43).f1.length → ((l.getD j z43).f1.getD q z48).f1.size ≤ 140737488351232
theorem one_ev (l : List S43) (hl : Sz l) (i : Nat) (hi : i < l.length) : Ev (fun k => kind_one.f k l (i : Int)) (oneS l i) := by
 obtain ⟨x, hx⟩ : ∃ x, x = l.getD i z43 := ⟨_, rfl⟩
 have rx : rd_T43 l (i : Int) = x := by rw [hx]; rfl
 have hn := hl.names i hi
 have hf := hl.fields i hi
 have hfn := fun q => hl.fnames i q hi
 rw [← hx] at hn hf hfn
 refine Ev.pos (by omega) (Ev.pos (by omega) ?_)
 rw [rx]
 refine Ev.bind (isWord_ev x.f0 (by omega)) ?_
 unfold oneS
 rw [← hx]
 cases wordB x.f0 with
 | false => exact Ev.neg (by decide) (Ev.now _)
 | true =>
  refine Ev.pos rfl (Ev.one (a := kind_Find.f l x.f0) (b := placeOf (findR (nameIs x.f0) l)) rfl ?_)
  rw [if_pos rfl]
  have hp : 0 ≤ findR (nameIs x.f0) l ∧ (placeOf (findR (nameIs x.f0) l)).1 = findR (nameIs x.f0) l := by
   have hlt : l.findIdx (nameIs x.f0) < l.length := List.findIdx_lt_length_of_exists ⟨l[i], List.getElem_mem hi, by rw [← getD_at l z43 hi, ← hx]; unfold nameIs; simp⟩
   have h0 : 0 ≤ findR (nameIs x.f0) l := by unfold findR; rw [if_pos hlt]; omega
   exact ⟨h0, by unfold placeOf; rw [if_neg (by omega)]⟩
  rw [hp.2]
  by_cases h1 : findR (nameIs x.f0) l < (i : Int)
  ·rw [if_pos h1]; exact Ev.pos h1 (Ev.now _)
  ·rw [if_neg h1]
   refine Ev.neg h1 ?_
   by_cases h2 : x.f1.length > 8
   ·rw [if_pos h2]; exact Ev.pos (by omega) (Ev.now _)
   ·rw [if_neg h2]
    refine Ev.neg (by omega) ?_
    have key : ∀ (d j : Nat), j ≤ x.f1.length → x.f1.length - j = d → Ev (fun k => kind_one.l0 k l x.f1 (x.f1.length : Int) (j : Int) x.f0 x.f1) (fieldsD l x.f1 d j) := by
     intro d
     induction d with
     | zero => exact fun j h0 hd => Ev.step (fun k => rfl) (Ev.neg (by omega) (Ev.now _))
     | succ d ih =>
      intro j h0 hd
      refine Ev.step (fun k => rfl) (Ev.pos (by omega) (Ev.pos (by omega) (Ev.pos (by omega) (Ev.pos (by omega) ?_))))
      have rf : rd_T48 x.f1 (j : Int) = x.f1.getD j z48 := rfl
      rw [rf, Int.toNat_natCast]
      refine Ev.bind (field_ev l _ _ _ (by have := hfn j (by omega); omega)) ?_
      unfold fieldsD
      by_cases h3 : fieldS l (x.f1.take j) (x.f1.getD j z48).f0 (x.f1.getD j z48).f1 = 0
      ·rw [if_pos h3, wrap_succ (by omega) (by omega)]
       exact Ev.pos h3 (ih (j + 1) (by omega) (by omega))
      ·rw [if_neg h3]
       exact Ev.neg h3 (Ev.now _)
    exact key x.f1.length 0 (by omega) (by omega)
theorem check_ev (l : List S43) (hl : Sz l) : Ev (fun k => kind_Check.f k l) (checkS l) := by
 unfold checkS
 by_cases h : l.length > 12
 ·rw [if_pos h]; exact Ev.pos (by omega) (Ev.now _)
 ·rw [if_neg h]
  refine Ev.neg (by omega) ?_
  have key : ∀ (d i : Nat), i ≤ l.length → l.length - i = d → Ev (fun k => kind_Check.l0 k l (l.length : Int) (i : Int)) (checkD l d i) := by
   intro d
   induction d with
   | zero => exact fun i h0 hd => Ev.step (fun k => rfl) (Ev.neg (by omega) (Ev.now _))
   | succ d ih =>
    intro i h0 hd
    refine Ev.step (fun k => rfl) (Ev.pos (by omega) (Ev.bind (one_ev l hl i (by omega)) ?_))
    unfold checkD
    by_cases h3 : oneS l i = 0
    ·rw [if_pos h3, wrap_succ (by omega) (by omega)]
     exact Ev.pos h3 (ih (i + 1) (by omega) (by omega))
    ·rw [if_neg h3]
     exact Ev.neg h3 (Ev.now _)
  exact key l.length 0 (by omega) (by omega)
theorem great_l (l : List S43) (hl : l.length ≤ 16) (d : Nat) : ∀ i : Nat, i ≤ l.length → l.length - i = d → (∀ j : Nat, j < i → (l.getD j z43).f1.length ≤ 12) →
  ∃ b, Ev (fun k => truantlaw12_great.l0 k l (i : Int)) b ∧ (b = false → ∀ j : Nat, j < l.length → (l.getD j z43).f1.length ≤ 12) := by
 induction d with
 | zero =>
  intro i h0 hd h
  exact ⟨false, Ev.step (fun k => rfl) (Ev.neg (by omega) (Ev.now _)), fun _ j hj => h j (by omega)⟩
 | succ d ih =>
  intro i h0 hd h
  by_cases hg : (((rd_T43 l (i : Int)).f1).length : Int) > 12
  ·exact ⟨true, Ev.step (fun k => rfl) (Ev.pos (by omega) (Ev.pos (by omega) (Ev.pos hg (Ev.now _)))), fun e => by cases e⟩
  ·obtain ⟨b, hb, hb2⟩ := ih (i + 1) (by omega) (by omega) (all_succ h (by
    have e : rd_T43 l (i : Int) = l.getD i z43 := by unfold rd_T43; rw [Int.toNat_natCast]
    rw [← e]; omega))
   refine ⟨b, Ev.step (fun k => rfl) (Ev.pos (by omega) (Ev.pos (by omega) (Ev.neg hg ?_))), hb2⟩
   rw [wrap_succ (by omega) (by omega)]
   exact hb
theorem great_ev (l : List S43) : ∃ b, Ev (fun k => truantlaw12_great.f k l) b ∧ (b = false → l.length ≤ 16 ∧ ∀ x ∈ l, x.f1.length ≤ 12) := by
 unfold truantlaw12_great.f
 by_cases h : (l.length : Int) > 16
 ·exact ⟨true, Ev.pos h (Ev.now _), fun e => by cases e⟩
 ·obtain ⟨b, hb, hb2⟩ := great_l l (by omega) l.length 0 (by omega) (by omega) (fun j hj => by omega)
  refine ⟨b, Ev.neg h hb, fun e => ⟨by omega, fun x hx => ?_⟩⟩
  obtain ⟨j, hj, rfl⟩ := List.mem_iff_getElem.mp hx
  have := hb2 e j hj
  rwa [getD_at _ _ hj] at this
theorem sz_of {l : List S43} (h : l.length * 40 ≤ 140737488351232 ∧ ∀ x ∈ l, WF43 x) : Sz l where
 len := by omega
 fields := fun j hj => by
  have h1 := (h.2 _ (List.getElem_mem hj)).2.1
  rw [getD_at _ _ hj]
  have h2 : (l[j]).f1.length * 32 ≤ 140737488351232 := h1
  omega
 names := fun j hj => by
  rw [getD_at _ _ hj]
  exact (h.2 _ (List.getElem_mem hj)).1
 fnames := fun j q hj hq => by
  rw [getD_at _ _ hj] at hq ⊢
  rw [getD_at _ _ hq]
  exact ((h.2 _ (List.getElem_mem hj)).2.2 _ (List.getElem_mem hq)).1
 types := fun j q hj hq => by
  rw [getD_at _ _ hj] at hq ⊢
  rw [getD_at _ _ hq]
  exact ((h.2 _ (List.getElem_mem hj)).2.2 _ (List.getElem_mem hq)).2
theorem StoreFrees_pure : StoreFrees.Pure := by
 intro l0 l1 h0 _
 obtain ⟨b, hb, hb2⟩ := great_ev l0
 have hc := check_ev l0 (sz_of h0)
 have h : Ev (fun k => truantlaw12_StoreFrees.f k l0 l1) true := by
  unfold truantlaw12_StoreFrees.f
  refine Ev.bind hb ?_
  cases b with
  | true => exact Ev.pos rfl (Ev.now _)
  | false =>
   obtain ⟨q1, q2⟩ := hb2 rfl
   refine Ev.neg (by decide) ?_
   by_cases hl : (l1.length : Int) > 80
   ·exact Ev.pos hl (Ev.now _)
   ·refine Ev.neg hl (Ev.bind hc (Ev.pos ?_ (Ev.now _)))
    unfold okSt
    rw [Bool.and_eq_true, List.all_eq_true]
    exact ⟨decide_eq_true (by omega), fun x hx => decide_eq_true (by have := q2 x hx; omega)⟩
 exact h.rounds
end Go.Proofs.Ytonmlncejikbiaa.Q
