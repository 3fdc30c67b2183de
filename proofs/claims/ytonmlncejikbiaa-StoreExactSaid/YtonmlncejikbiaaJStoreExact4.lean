/- What the row of StoreExact rests on, part 4: contracts of the functions that it reaches, and the plain law. -/
import Derived.Test.YtonmlncejikbiaaJStoreExact3
/- StoreExact: by hand; its drawn regions are written by wip/tool/stexact.py. -/
namespace Go.Proofs.Ytonmlncejikbiaa.Q
open Go.RowKit Go.Proofs.YtonmlncejikbiaaW.PrintWords Go.Proofs.YtonmlncejikbiaaW.PrintLast Go.Proofs.YtonmlncejikbiaaW.PrintMore
set_option linter.unusedVariables false
set_option linter.unusedSimpArgs false
def RXs (l0 : List S43) (p q : Int × Int) : Prop := p = q ∧ RS l0
noncomputable def truantlaw12_StoreExact.f (k : Nat) (l0 : List (S43)) (l1 : List (S94)) (l2 : List Int) : Option (Bool) :=
 (truantlaw12_great.f k l0).bind fun gr => if gr = true then some true else if (l1.length : Int) > 80 then some true else if (l2.length : Int) > 20 then some true else (kind_Check.f k l0).bind fun p => (truantref03_Check.f k l0).bind fun q => if decB (RXs l0 p q) = true then some true else none
theorem decB_ofY {p : Prop} (h : decB p = true) : p := Classical.byContradiction fun q => by rw [decB_false q] at h; cases h
theorem heapSy : Kd.Heap k43 := Kd.heap_iso _ (Kd.heap_pair Kd.heap_string (Kd.heap_slice 48 (Kd.heap_iso _ (Kd.heap_pair Kd.heap_string Kd.heap_string))))
theorem okT_nil (S : List S43) : OkT S [] := ⟨by decide, fun x hx => (nomatch hx)⟩
theorem okT_mk {S : List S43} {L : List (Int × Int × List Int)} {F : List Bool} (h : OkT S L) (nm : ByteArray) (f : Int) : OkT S (mkSL S L F nm f) := by
 unfold mkSL
 split
 ·exact h
 ·rename_i hc
  have h1 := h.len
  have hnb : badM S F nm f = false := by
   cases e : badM S F nm f
   ·rfl
   ·exact absurd (.inl e) hc
  have hat : ¬ atO S nm < 0 := by
   intro hn
   unfold badM at hnb
   rw [decide_eq_true hn, Bool.true_or] at hnb
   cases hnb
  refine ⟨by rw [List.length_append, List.length_singleton]; omega, fun x hx => ?_⟩
  rcases List.mem_append.mp hx with hx | hx
  ·exact h.all x hx
  ·rw [List.mem_singleton] at hx
   subst hx
   obtain ⟨m, hm⟩ : ∃ m : Nat, atO S nm = m := ⟨(atO S nm).toNat, by omega⟩
   have hlt : m < S.length := find_lt (p := nameIs nm) hm
   refine ⟨by omega, by show atO S nm < _; omega, ?_⟩
   show (zerosO S (atO S nm)).length = _
   unfold zerosO; rw [List.length_replicate]
theorem okT_set {S : List S43} {L : List (Int × Int × List Int)} {F : List Bool} (h : OkT S L) (o f n : Int) : OkT S (setS L F o f n) := by
 refine ⟨by rw [setS_len]; exact h.len, fun x hx => ?_⟩
 obtain ⟨j, hj, rfl⟩ := List.mem_iff_getElem.mp hx
 have hj2 : j < L.length := by rw [setS_len] at hj; exact hj
 obtain ⟨h1, h2, h3⟩ := setS_rd L F o f n (j : Int)
 have e1 : rdS (setS L F o f n) (j : Int) = (setS L F o f n)[j] := by unfold rdS; rw [Int.toNat_natCast, getD_at _ _ hj]
 obtain ⟨q0, q1, q2⟩ := h.all _ (rdS_mem hj2)
 rw [e1] at h1 h3
 rw [h3, h1]
 exact ⟨q0, q1, q2⟩
theorem fb_enter {L : List (Int × Int × List Int)} {F : List Bool} (h : FB L F) : FB L (F ++ [true]) := fun x hx => by
 have h1 := h x hx
 have h2 : ((F ++ [true]).length : Int) = (F.length : Int) + 1 := by simp
 omega
theorem fb_leave {L : List (Int × Int × List Int)} {F : List Bool} (h : FB L F) (f : Int) : FB L (leaveF F f) := fun x hx => by rw [leaveF_len]; exact h x hx
theorem fb_mk {S : List S43} {L : List (Int × Int × List Int)} {F : List Bool} (h : FB L F) (nm : ByteArray) (f : Int) : FB (mkSL S L F nm f) F := fun x hx => by
 unfold mkSL at hx
 split at hx
 ·exact h x hx
 ·rename_i hn
  rcases List.mem_append.mp hx with hx | hx
  ·exact h x hx
  ·rw [List.mem_singleton.mp hx]
   by_cases hf : f = 0
   ·exact .inl hf
   ·cases ho : openF F f with
    | true => exact .inr (opF_range ho)
    | false =>
     exfalso
     refine hn (.inl ?_)
     unfold badM
     rw [ho, show (f != 0) = true from bne_iff_ne.mpr hf]
     simp
theorem fb_set {L : List (Int × Int × List Int)} {F : List Bool} (h : FB L F) (o f n : Int) : FB (setS L F o f n) F := fun x hx => by
 obtain ⟨j, hj, rfl⟩ := List.mem_iff_getElem.mp hx
 have hj2 : j < L.length := by rw [setS_len] at hj; exact hj
 have h1 := (setS_rd L F o f n (j : Int)).2.1
 have e1 : rdS (setS L F o f n) (j : Int) = (setS L F o f n)[j] := by unfold rdS; rw [Int.toNat_natCast, getD_at _ _ hj]
 rw [e1] at h1
 rw [h1]
 exact h _ (rdS_mem hj2)
theorem frN_mk (S : List S43) (L : List (Int × Int × List Int)) (F : List Bool) (nm : ByteArray) (f : Int) : frN (mkSL S L F nm f) = if mkSE S L F nm f = 0 ∧ f ≠ 0 then frN L + 1 else frN L := by
 unfold mkSL mkSE
 by_cases hb : badM S F nm f = true
 ·rw [if_pos (.inl hb), if_pos hb, if_neg (fun h => by cases h.1)]
 ·rw [if_neg hb]
  by_cases hl : L.length = 131072
  ·rw [if_pos (.inr hl), if_pos hl, if_neg (fun h => by cases h.1)]
  ·rw [if_neg (fun h => h.elim hb hl), if_neg hl, frN_put]
   by_cases hf : f = 0
   ·rw [show (if (0 : Int) = 0 ∧ f ≠ 0 then frN L + 1 else frN L) = frN L from if_neg (fun h => h.2 hf)]
    subst hf
    show frN L + (if ((0 : Int) != 0) = true then 1 else 0) = frN L
    rw [if_neg (by decide)]; omega
   ·rw [show (if (0 : Int) = 0 ∧ f ≠ 0 then frN L + 1 else frN L) = frN L + 1 from if_pos ⟨rfl, hf⟩]
    show frN L + (if (f != 0) = true then 1 else 0) = frN L + 1
    rw [if_pos (bne_iff_ne.mpr hf)]
theorem openTo_at (F : List Bool) {i : Nat} (hb : F.getD i false = true) : ∀ n, i < n → (openTo F i).length < (openTo F n).length ∧ rd (openTo F n) ((openTo F i).length : Int) = (i : Int) + 1
 | 0, h => by omega
 | n + 1, h => by
  by_cases e : i = n
  ·subst e
   rw [openTo_next, if_pos hb]
   refine ⟨by rw [List.length_append, List.length_singleton]; omega, ?_⟩
   unfold rd
   rw [Int.toNat_natCast, List.getD_eq_getElem?_getD, List.getElem?_append_right (Nat.le_refl _), Nat.sub_self]
   rfl
  ·obtain ⟨h1, h2⟩ := openTo_at F hb n (by omega)
   rw [openTo_next]
   refine ⟨by rw [List.length_append]; omega, ?_⟩
   unfold rd at h2 ⊢
   rw [Int.toNat_natCast] at h2 ⊢
   rw [List.getD_eq_getElem?_getD, List.getElem?_append_left h1, ← List.getD_eq_getElem?_getD]
   exact h2
set_option maxRecDepth 100000 in
theorem reachS_nil (A0 : Option Addr) (c0 : Nat) (l0 : List Int) (w : World) (hr0 : (Kd.int .i64).C w A0 l0.length l0) (hc0 : l0.length ≤ c0) (hl : l0.length ≤ 1000000) :
  Calls Try.prog 59 #[.pointer none, .slice A0 l0.length c0] w fun e w' => ∃ v0, e = .returned v0 ∧ (Kd.int .i64).R 3 w' w.heap.size (fun _ => True) v0 [] ∧ Below w.heap.size w w' := by
 have h1 := store_Reach.any (.pointer none) (fun _ => false) (fun _ => false) (fun _ => none) (l0.length + 1) A0 c0 l0 [] w (fun w' x _ => store_is.nil x w') (fun w' x _ hx => by cases hx) (fun x hx => by cases hx) (fun w' x ns _ hx _ _ => by cases hx) (fun x hx => by cases hx) hr0 hc0 hl (reach_none _ _ (by omega)) (by show (0 : Nat) < 1099511627776; omega)
 rw [List.mergeSort_nil] at h1
 exact h1
theorem r1y_row (w : World) : (Kd.int .i64).C (w.alloc (.cells #[.int .i64 1] 3)) (some ⟨w.heap.size, 0, none⟩) 1 [1] :=
 (Kd.R_reads' (lit_R (Kd.int .i64) (W := w) w.heap.size 3 (xs := [1]) (inner := [.int .i64 1]) (ok := fun _ => True) (okp := fun _ => True) (Reps.one rfl (Reps.none _ _)) (fun _ h => h) trivial (Nat.le_refl _) (by decide))).2.2
/-- The law's count of those who are reached: n of them lie below i. -/
structure CntI (r : List Int) (n i : Nat) : Prop where
 lo : ∀ p : Nat, p < n → p < r.length → rd r (p : Int) < (i : Int)
 hi : ∀ p : Nat, n ≤ p → p < r.length → (i : Int) ≤ rd r (p : Int)
theorem rd_in {r : List Int} {p : Nat} (h : p < r.length) : rd r (p : Int) ∈ r := by
 unfold rd
 rw [Int.toNat_natCast, getD_at _ _ h]
 exact List.getElem_mem h
theorem cnt_zero {L : List (Int × Int × List Int)} {r : List Int} (h : ∀ x ∈ r, isSt L x = true) : CntI r 0 1 :=
 ⟨fun p hp => by omega, fun p _ hp => by
  have := isSt_in (h _ (rd_in hp))
  omega⟩
theorem CntI.miss {r : List Int} {n i : Nat} (h : CntI r n i) (hm : (i : Int) ∉ r) : CntI r n (i + 1) :=
 ⟨fun p hp hq => by have := h.lo p hp hq; omega, fun p hp hq => by
  have h1 := h.hi p hp hq
  have h2 : rd r (p : Int) ≠ (i : Int) := fun e => hm (by rw [← e]; exact rd_in hq)
  omega⟩
theorem up_rd {r : List Int} (hu : r.Pairwise (· < ·)) {p q : Nat} (h : p < q) (hq : q < r.length) : rd r (p : Int) < rd r (q : Int) := by
 unfold rd
 rw [Int.toNat_natCast, Int.toNat_natCast, getD_at _ _ (by omega), getD_at _ _ hq]
 exact List.pairwise_iff_getElem.mp hu p q (by omega) hq h
theorem CntI.hit {r : List Int} {n i : Nat} (h : CntI r n i) (hu : r.Pairwise (· < ·)) (hm : (i : Int) ∈ r) : n < r.length ∧ rd r (n : Int) = (i : Int) := by
 obtain ⟨p, hp, e⟩ := List.mem_iff_getElem.mp hm
 have e2 : rd r (p : Int) = (i : Int) := by unfold rd; rw [Int.toNat_natCast, getD_at _ _ hp]; exact e
 have h1 : n ≤ p := by
  by_cases hc : n ≤ p
  ·exact hc
  ·have := h.lo p (by omega) hp; omega
 refine ⟨by omega, ?_⟩
 have h2 := h.hi n (Nat.le_refl _) (by omega)
 by_cases hc : n = p
 ·rw [hc]; exact e2
 ·have := up_rd hu (show n < p by omega) hp
  omega
theorem CntI.next {r : List Int} {n i : Nat} (h : CntI r n i) (hu : r.Pairwise (· < ·)) (hn : n < r.length) (e : rd r (n : Int) = (i : Int)) : CntI r (n + 1) (i + 1) :=
 ⟨fun p hp hq => by
  by_cases hc : p = n
  ·subst hc; omega
  ·have := h.lo p (by omega) hq; omega, fun p hp hq => by
  have := up_rd hu (show n < p by omega) hq
  omega⟩
theorem CntI.all {r : List Int} {n i : Nat} (h : CntI r n i) (hn : n ≤ r.length) (hx : ∀ x ∈ r, x < (i : Int)) : n = r.length := by
 by_cases hc : n = r.length
 ·exact hc
 ·have h1 := h.hi n (Nat.le_refl _) (by omega)
  have h2 := hx _ (rd_in (show n < r.length by omega))
  omega
def truantlaw12_StoreExact.T22 : Bool × List (List Nat × List Nat) := (true, [([], []), ([], []), ([1], [1]), ([0, 2], [0, 2]), ([], []), ([], []), ([5], [5]), ([4, 6, 3], [4, 6]), ([3, 7], [3, 7])])
def truantlaw12_StoreExact.B22 : List Nat := [0, 0, 2, 7, 0, 0, 32, 127, 255]
theorem truantlaw12_StoreExact.tab22 : rtab .any (opsOf Try.f10 22) = truantlaw12_StoreExact.T22 := by kernel_rfl
theorem truantlaw12_StoreExact.bits22 : waitsOk truantlaw12_StoreExact.T22.2 truantlaw12_StoreExact.B22 = true := by kernel_rfl
def truantlaw12_StoreExact.T35 : Bool × List (List Nat × List Nat) := (true, [([], []), ([], []), ([1], [1]), ([], []), ([3], [3]), ([], []), ([5], [5]), ([0, 2, 4, 6], [0, 2, 4, 6]), ([], []), ([], []), ([9], [9]), ([], []), ([11], [11]), ([], []), ([13], [13]), ([8, 10, 12, 14, 7], [8, 10, 12, 14]), ([7, 15], [7, 15])])
def truantlaw12_StoreExact.B35 : List Nat := [0, 0, 2, 0, 8, 0, 32, 127, 0, 0, 512, 0, 2048, 0, 8192, 32767, 65535]
theorem truantlaw12_StoreExact.tab35 : rtab .any (opsOf Try.f10 35) = truantlaw12_StoreExact.T35 := by kernel_rfl
theorem truantlaw12_StoreExact.bits35 : waitsOk truantlaw12_StoreExact.T35.2 truantlaw12_StoreExact.B35 = true := by kernel_rfl
def truantlaw12_StoreExact.T39 : Bool × List (List Nat × List Nat) := (true, [([], []), ([], []), ([0, 1], [0, 1]), ([2], [2]), ([3], [3]), ([3], [3]), ([4, 5, 3], [3, 4, 5]), ([3, 6], [3, 6]), ([7, 3], [7]), ([8], [8]), ([9, 8, 8], [8, 9]), ([8], [8]), ([10, 11, 8], [8, 10, 11]), ([8, 12], [8, 12]), ([13, 10], [13]), ([14], [14]), ([15, 14, 14], [14, 15]), ([14], [14]), ([17, 14], [14, 17]), ([18, 14], [14, 18]), ([19, 14], [14, 19]), ([20, 14], [14, 20]), ([14], [14]), ([21, 22, 14], [14, 21, 22]), ([16, 23, 14], [14, 16, 23]), ([14, 24], [14, 24])])
def truantlaw12_StoreExact.B39 : List Nat := [0, 0, 3, 7, 15, 15, 63, 127, 255, 511, 1023, 511, 4095, 8191, 16383, 32767, 65535, 32767, 163839, 425983, 950271, 1998847, 32767, 8290303, 16777215, 33554431]
theorem truantlaw12_StoreExact.tab39 : rtab .any (opsOf Try.f10 39) = truantlaw12_StoreExact.T39 := by kernel_rfl
theorem truantlaw12_StoreExact.bits39 : waitsOk truantlaw12_StoreExact.T39.2 truantlaw12_StoreExact.B39 = true := by kernel_rfl
def truantlaw12_StoreExact.T44 : Bool × List (List Nat × List Nat) := (true, [([], []), ([], []), ([1], [1]), ([0, 2], [0, 2]), ([], []), ([], []), ([5], [5]), ([6], [6]), ([7], [7]), ([], []), ([8, 9], [8, 9]), ([10], [10]), ([11], [11]), ([4, 12], [4, 12]), ([13], [13]), ([14], [14]), ([3, 15], [3, 15]), ([16, 3], [16]), ([17], [17]), ([17], [17]), ([19, 17], [17, 19]), ([18, 20, 17, 17], [17, 18, 20]), ([17], [17]), ([22, 17], [17, 22]), ([23, 17], [17, 23]), ([24, 17], [17, 24]), ([17], [17]), ([25, 26, 17], [17, 25, 26]), ([27, 17], [17, 27]), ([28, 17], [17, 28]), ([21, 29, 17], [17, 21, 29]), ([17, 30], [17, 30])])
def truantlaw12_StoreExact.B44 : List Nat := [0, 0, 2, 7, 0, 0, 32, 96, 224, 0, 992, 2016, 4064, 8176, 16368, 32752, 65535, 131071, 262143, 262143, 786431, 2097151, 262143, 4456447, 12845055, 29622271, 262143, 130285567, 264503295, 532938751, 1073741823, 2147483647]
theorem truantlaw12_StoreExact.tab44 : rtab .any (opsOf Try.f10 44) = truantlaw12_StoreExact.T44 := by kernel_rfl
theorem truantlaw12_StoreExact.bits44 : waitsOk truantlaw12_StoreExact.T44.2 truantlaw12_StoreExact.B44 = true := by kernel_rfl
set_option maxRecDepth 100000 in
set_option maxHeartbeats 16000000 in
theorem StoreExact.nil (k : Nat) (A0 : Option Addr) (c0 : Nat) (l0 : List (S43)) (A1 : Option Addr) (c1 : Nat) (l1 : List (S94)) (A2 : Option Addr) (c2 : Nat) (l2 : List Int) (r1 r2 : Int) (w : World) (hr0 : Kd.C k43 w A0 l0.length l0) (hc0 : l0.length ≤ c0) (hr1 : Kd.C k94 w A1 l1.length l1) (hc1 : l1.length ≤ c1) (hr2 : Kd.C (Kd.int .i64) w A2 l2.length l2) (hc2 : l2.length ≤ c2)
  (hg : truantlaw12_great.f k l0 = some false) (hlen : ¬ (l1.length : Int) > 80) (hlen2 : ¬ (l2.length : Int) > 20) (hck : kind_Check.f k l0 = some (r1, r2)) (hrk : truantref03_Check.f k l0 = some (r1, r2)) (hne : (r2 != 0) = true) :
  Calls Try.prog 10 #[.slice A0 l0.length c0, .slice A1 l1.length c1, .slice A2 l2.length c2] w fun e w' => e = .returned (.bool true) ∧ Below w.heap.size w w' := by
 have HR0 := Aside0.mk hr0; have HC0 := Aside0.mk hc0; have HGR := Aside0.mk hg; have HCK := Aside0.mk hck; have HRK := Aside0.mk hrk; have HNE := Aside0.mk hne
 have hdl : decide ((l1.length : Int) > 80) = false := decide_eq_false hlen
 have hdl2 : decide ((l2.length : Int) > 20) = false := decide_eq_false hlen2
 clear hr0 hc0 hr1 hc1 hr2 hc2 hg hck hrk hlen hlen2
 go_enter Try.func10, Try.ntmps10
 go_wp2_with fail
 refine (truantlaw12_awake.calls true w rfl).mono ?_
 rintro e w1 ⟨rfl, hb1⟩
 have HB1 := Aside0.mk hb1; clear hb1
 go_wp2_with fail
 refine (truantlaw12_great.calls k A0 c0 l0 false w1 (Kd.C_below HR0.out HB1.out) HC0.out HGR.out).mono ?_
 rintro e w2 ⟨rfl, hd2⟩
 have HB2 := Aside0.mk (below_step HB1.out hd2.below); clear hd2 HB1
 go_wp2_with fail
 refine (store_New.bad k A0 c0 l0 r1 r2 w2 (Kd.C_below HR0.out HB2.out) HC0.out HCK.out HNE.out).mono ?_
 rintro e w3 ⟨rfl, hb3⟩
 have HB3 := Aside0.mk (below_step HB2.out hb3); clear hb3 HB2
 go_wp2_with fail
 refine (truantref03_Check.calls k A0 c0 l0 r1 r2 w3 (Kd.C_below HR0.out HB3.out) HC0.out HRK.out).mono ?_
 rintro e w4 ⟨rfl, hd4⟩
 have HB4 := Aside0.mk (below_step HB3.out hd4); clear hd4 HB3
 go_wp2_with fail
 refine (store_Make.nil _ 0 w4).mono ?_
 rintro e w5 ⟨rfl, hb5⟩
 have HB5 := Aside0.mk (below_step HB4.out hb5); clear hb5 HB4
 go_wp2_with fail
 refine (store_Get.nil 0 0 w5).mono ?_
 rintro e w6 ⟨rfl, hb6⟩
 have HB6 := Aside0.mk (below_step HB5.out hb6); clear hb6 HB5
 go_wp2_with fail
 refine (store_Set.nil 0 0 0 w6).mono ?_
 rintro e w7 ⟨rfl, hb7⟩
 have HB7 := Aside0.mk (below_step HB6.out hb7); clear hb7 HB6
 go_wp2_with fail
 refine (store_Leave.nil 1 w7).mono ?_
 rintro e w8 ⟨rfl, hb8⟩
 have HB8 := Aside0.mk (below_step HB7.out hb8); clear hb8 HB7
 go_wp2_with fail
 refine (store_Enter.nil w8).mono ?_
 rintro e w9 ⟨rfl, hb9⟩
 have HB9 := Aside0.mk (below_step HB8.out hb9); clear hb9 HB8
 go_wp2_with fail
 refine (store_Of.nil 1 w9).mono ?_
 rintro e w10 ⟨rfl, hb10⟩
 have HB10 := Aside0.mk (below_step HB9.out hb10); clear hb10 HB9
 go_wp2_with fail
 refine (store_Frame.nil 1 w10).mono ?_
 rintro e w11 ⟨rfl, hb11⟩
 have HB11 := Aside0.mk (below_step HB10.out hb11); clear hb11 HB10
 go_wp2_with fail
 refine (store_Made.nil true w11).mono ?_
 rintro e w12 ⟨rfl, hb12⟩
 have HB12 := Aside0.mk (below_step HB11.out hb12); clear hb12 HB11
 go_wp2_with fail
 refine (store_Made.nil false w12).mono ?_
 rintro e w13 ⟨rfl, hb13⟩
 have HB13 := Aside0.mk (below_step HB12.out hb13); clear hb13 HB12
 go_wp2_with fail
 refine (store_Open.nil w13).mono ?_
 rintro e w14 ⟨rfl, hb14⟩
 have HB14 := Aside0.mk (below_step HB13.out hb14); clear hb14 HB13
 go_wp2_with fail
 have hba : Below w14.heap.size w14 (w14.alloc (.cells #[.int .i64 1] 3)) := below_alloc (Below.refl _ _) _
 refine (reachS_nil _ 1 [1] _ (r1y_row w14) (Nat.le_refl _) (by decide)).mono ?_
 rintro e w15 ⟨v15, rfl, hr15, hb15⟩
 obtain ⟨A15, c15, rfl⟩ := Kd.R_slice hr15
 have HB15 := Aside0.mk (below_step (below_step HB14.out hba) hb15)
 clear hb15 hr15 hba HB14
 have h40 : ([] : List Int).length = 0 := rfl
 rw [h40]
 go_wp2
 go_ret
 exact ⟨rfl, HB15.out⟩
set_option maxRecDepth 100000 in
set_option maxHeartbeats 16000000 in
theorem StoreExact.there (k : Nat) (A0 : Option Addr) (c0 : Nat) (l0 : List (S43)) (A1 : Option Addr) (c1 : Nat) (l1 : List (S94)) (A2 : Option Addr) (c2 : Nat) (l2 : List Int) (r1 : Int) (w : World) (hr0 : Kd.C k43 w A0 l0.length l0) (hc0 : l0.length ≤ c0) (hr1 : Kd.C k94 w A1 l1.length l1) (hc1 : l1.length ≤ c1) (hr2 : Kd.C (Kd.int .i64) w A2 l2.length l2) (hc2 : l2.length ≤ c2)
  (hg : truantlaw12_great.f k l0 = some false) (hlen : ¬ (l1.length : Int) > 80) (hlen2 : ¬ (l2.length : Int) > 20) (hck : kind_Check.f k l0 = some (r1, 0)) (hrk : truantref03_Check.f k l0 = some (r1, 0)) (hrs : RS l0) :
  Calls Try.prog 10 #[.slice A0 l0.length c0, .slice A1 l1.length c1, .slice A2 l2.length c2] w fun e w' => e = .returned (.bool true) ∧ Below w.heap.size w w' := by
 have hs1 := hrs.len
 have hs2 : ∀ x ∈ l0, x.f1.length ≤ 1000000 := fun x hx => Nat.le_trans (hrs.fields x hx) (by decide)
 have HRS := Aside0.mk hrs
 have HS2 := Aside0.mk hs2
 have HF0 := Aside0.mk (Kd.C_F heapSy hr0)
 have HR0 := Aside0.mk hr0; have HC0 := Aside0.mk hc0; have HR1 := Aside0.mk hr1; have HGR := Aside0.mk hg; have HCK := Aside0.mk hck; have HRK := Aside0.mk hrk; have HS1 := Aside0.mk hs1; have HLN := Aside0.mk hlen
 have hm1 := Kd.C_max hr1
 have hdl : decide ((l1.length : Int) > 80) = false := decide_eq_false hlen
 have hdl2 : decide ((l2.length : Int) > 20) = false := decide_eq_false hlen2
 have HR2 := Aside0.mk hr2; have HC2 := Aside0.mk hc2; have HL2 : Aside0 (l2.length ≤ 20) := ⟨by omega⟩
 clear hr0 hc0 hr1 hr2 hc2 hg hck hrk hrs hs1 hs2 hlen hlen2
 go_enter Try.func10, Try.ntmps10
 go_wp2_with fail
 refine (truantlaw12_awake.calls true w rfl).mono ?_
 rintro e w1 ⟨rfl, hb1⟩
 have HB1 := Aside0.mk hb1; clear hb1
 go_wp2_with fail
 refine (truantlaw12_great.calls k A0 c0 l0 false w1 (Kd.C_below HR0.out HB1.out) HC0.out HGR.out).mono ?_
 rintro e w2 ⟨rfl, hd2⟩
 have HB2 := Aside0.mk (below_step HB1.out hd2.below); clear hd2 HB1
 go_wp2_with fail
 refine (store_New.calls k A0 c0 l0 r1 w2 (Kd.C_below HR0.out HB2.out) HC0.out HCK.out HS1.out HS2.out).mono ?_
 rintro e w3 ⟨g, rfl, hp3, hb3⟩
 have HB3 := Aside0.mk (below_step HB2.out hb3); have HW := Aside0.mk HB2.out.size; have H3 := Aside0.mk hp3
 clear hb3 hp3 HB2
 go_wp2_with fail
 refine (truantref03_Check.calls k A0 c0 l0 r1 0 w3 (Kd.C_below HR0.out HB3.out) HC0.out HRK.out).mono ?_
 rintro e w4 ⟨rfl, hd4⟩
 have HB4 := Aside0.mk (below_step HB3.out hd4); have H4 := Aside0.mk (H3.out.below hd4)
 clear hd4 HB3 H3
 go_wp2_with fail
 have HBa : Aside0 (Below w4.heap.size w4 (w4.alloc (.cells #[.slice A0 l0.length c0, .slice none 0 0, .slice none 0 0] 92))) := ⟨below_alloc (Below.refl _ _) _⟩
 have HBLK : Aside0 ((w4.alloc (.cells #[.slice A0 l0.length c0, .slice none 0 0, .slice none 0 0] 92)).heap[w4.heap.size]? = some (.cells #[.slice A0 l0.length c0, .slice none 0 0, .slice none 0 0] 92 (0, 0))) := ⟨blk_new _ _⟩
 have HUW : Aside0 (w.heap.size ≤ w4.heap.size) := ⟨HB4.out.size⟩
 generalize w2.heap.size = base at H4 HW
 have H4b := Aside0.mk (H4.out.mono (U := fun k => base ≤ k ∧ k < w4.heap.size) (fun k h1 h2 => ⟨h1, h2⟩))
 have H5 := Aside0.mk (H4b.out.below HBa.out)
 have HB5 := Aside0.mk (below_step HB4.out HBa.out)
 clear HB4 H4 H4b HBa
 generalize w4.alloc (.cells #[.slice A0 l0.length c0, .slice none 0 0, .slice none 0 0] 92) = w5 at HBLK H5 HB5 ⊢
 generalize w4.heap.size = u at HBLK HUW H5 ⊢
 have HU5 : Aside0 (SW w5 u u l0 [] [] (fun k => k < w.heap.size ∨ k = u)) := ⟨by
  refine ⟨.slice A0 l0.length c0, .slice none 0 0, .slice none 0 0, fun k => k < w.heap.size, fun _ => False, fun _ => False, ⟨HBLK.out, Nat.le_refl _, Kd.V_mk HC0.out (Kd.F_below HF0.out HB5.out), Kd.S_nil _ _ _ _ _, Kd.R_nil _ _ _ _ _, fun k hk => ⟨(by have := HUW.out; omega), (fun x => x), (fun x => x), Nat.lt_of_lt_of_le hk HB5.out.size⟩, fun k hk => hk.elim, fun k hk => hk.elim⟩, fun k hk => ?_⟩
  rcases hk with hk | hk | hk | hk
  ·exact ⟨.inr hk, by rw [hk]; exact blk_lt HBLK.out⟩
  ·exact ⟨.inl hk, Nat.lt_of_lt_of_le hk HB5.out.size⟩
  ·exact hk.elim
  ·exact hk.elim⟩
 have HA5 : Aside0 (∀ k, (base ≤ k ∧ k < u) → ¬ (k < w.heap.size ∨ k = u)) := ⟨fun k h1 h2 => by have := HW.out; omega⟩
 have HFR5 : Aside0 ((0 : Int) = frN []) := ⟨rfl⟩
 clear HBLK
 go_wp2_with fail
 go_loopw [15, 16, 18, 19, 20, 21, 22, 23, 24, 25, 139, 146, 157, 195] (fun v15 v16 _ _ _ _ _ _ _ _ _ _ _ _ wr => ∃ (i : Nat) (fr : Int) (L : List (Int × Int × List Int)) (F : List Bool) (T U : Nat → Prop), v15 = .int .i64 fr ∧ v16 = .int .i64 i ∧ i ≤ l1.length ∧ Aside0 (fr = frN L) ∧ Aside0 (L.length ≤ i ∧ F.length ≤ i ∧ OkT l0 L ∧ FB L F) ∧ Aside0 (Below w.heap.size w wr) ∧ Aside0 (SP wr base g l0 L F T) ∧ Aside0 (SW wr u u l0 L F U) ∧ Aside0 (∀ k, T k → ¬ U k)) (fun _ v16 _ _ _ _ _ _ _ _ _ _ _ _ _ => l1.length - (intOf v16).toNat)
 case atStart => exact ⟨0, 0, [], [], _, _, rfl, rfl, Nat.zero_le _, HFR5, ⟨Nat.le_refl _, Nat.le_refl _, okT_nil l0, fun x hx => (nomatch hx)⟩, HB5, H5, HU5, HA5⟩
 case round =>
  clear HB5 H5 HU5 HA5 HFR5
  obtain ⟨i, fr, L, F, Tq, Uq, rfl, rfl, hi, HFR, HL, HB, Hq, HUq, HAq⟩ := hrel
  by_cases hlt : i < l1.length
  ·obtain ⟨T, hT0⟩ : ∃ T0, T0 = (fun k => Tq k ∧ k < wr.heap.size) := ⟨_, rfl⟩
   obtain ⟨U, hU0⟩ : ∃ U0, U0 = (fun k => Uq k ∧ k < wr.heap.size) := ⟨_, rfl⟩
   have H : Aside0 (SP wr base g l0 L F T) := ⟨by rw [hT0]; exact Hq.out.mono (fun k hk hl => ⟨hk, hl⟩)⟩
   have HUx : Aside0 (SW wr u u l0 L F U) := ⟨by rw [hU0]; exact SV.mono HUq.out (fun k hk hl => ⟨hk, hl⟩)⟩
   have HNT : Aside0 (¬ T wr.heap.size) := ⟨by rw [hT0]; exact fun h_ => by have := h_.2; omega⟩
   have HNU : Aside0 (¬ U wr.heap.size) := ⟨by rw [hU0]; exact fun h_ => by have := h_.2; omega⟩
   have HA : Aside0 (∀ k, T k → ¬ U k) := ⟨by rw [hT0, hU0]; exact fun k hk hu => HAq.out k hk.1 hu.1⟩
   clear hT0 hU0 Hq HUq HAq
   obtain ⟨ad, e1, hx0, hx1, hx2, hx3, hx4, hx5⟩ := at_T94 (Kd.C_below HR1.out HB.out) (i : Int) (by omega) (by omega)
   subst e1
   simp only [Int.toNat_natCast] at hx0 hx1 hx2 hx3 hx4 hx5
   obtain ⟨x, ex⟩ : ∃ x, x = rd_T94 l1 (i : Int) := ⟨_, rfl⟩
   rw [← ex] at hx0 hx1 hx2 hx3 hx4 hx5
   have hlti : (i : Int) < (l1.length : Int) := by omega
   have hil : i ≤ 80 := by have := HLN.out; omega
   clear ex
   obtain ⟨kd, hkd⟩ : ∃ kd, kd = x.f0 := ⟨_, rfl⟩
   rw [← hkd] at hx0
   clear hkd
   go_upto_region 17 with (fail)
   have HBa : Aside0 (Below wr.heap.size wr (wr.alloc (.cells #[.int .i64 kd, .int .i64 x.f1, .string x.f2, .int .i64 x.f3, .int .i64 x.f4, .int .i64 x.f5] 94))) := ⟨below_alloc (Below.refl _ _) _⟩
   have HXB : Aside0 ((wr.alloc (.cells #[.int .i64 kd, .int .i64 x.f1, .string x.f2, .int .i64 x.f3, .int .i64 x.f4, .int .i64 x.f5] 94)).heap[wr.heap.size]? = some (.cells #[.int .i64 kd, .int .i64 x.f1, .string x.f2, .int .i64 x.f3, .int .i64 x.f4, .int .i64 x.f5] 94 (0, 0))) := ⟨blk_new _ _⟩
   have HB2 := Aside0.mk (below_step HB.out HBa.out); have H2 := Aside0.mk (H.out.below HBa.out); have HU2 := Aside0.mk (SV.below HUx.out HBa.out)
   clear HB H HUx HBa hx0 hx1 hx2 hx3 hx4 hx5
   generalize wr.alloc (.cells #[.int .i64 kd, .int .i64 x.f1, .string x.f2, .int .i64 x.f3, .int .i64 x.f4, .int .i64 x.f5] 94) = wa at HXB HB2 H2 HU2 ⊢
   generalize wr.heap.size = nb at HXB HNT HNU ⊢
   by_cases h1 : kd = 1
   ·subst h1
    as_aux_lemma =>
     obtain ⟨y0, y1, y2, y3, y4, y5, -⟩ := bk6 HXB.out
     go_wp2_with fail
     refine (store_Enter.calls H2.out (by have := HL.out.2.1; omega)).mono ?_
     rintro e w6 ⟨rfl, hp6, hk6, hb6⟩
     have H6 := Aside0.mk hp6; have HU6 := Aside0.mk (SW.beside HU2.out hk6 HA.out); have HA6 := Aside0.mk (apart_l (w := wa) HA.out); have HB6 := Aside0.mk (HB2.out.trans (hb6.mono HW.out)); have HX6 := Aside0.mk (blk_kept HXB.out hk6 HNT.out)
     have HNU6 : Aside0 (¬ (U nb ∧ nb < wa.heap.size)) := ⟨fun h_ => HNU.out h_.1⟩
     clear y0 y1 y2 y3 y4 y5 hp6 hk6 hb6 H2 HU2 HA HB2 HXB HNT HNU
     obtain ⟨y0, y1, y2, y3, y4, y5, -⟩ := bk6 HX6.out
     go_wp2_with fail
     refine (ref12_Enter.calls HU6.out HL.out.2.2.2 (by have := HL.out.2.1; omega)).mono ?_
     rintro e w7 ⟨rfl, hp7, hk7, hb7⟩
     have HU7 := Aside0.mk hp7; have H7 := Aside0.mk (H6.out.beside hk7 (fun k hu ht => HA6.out k ht hu)); have HA7 := Aside0.mk (apart_r (w := w6) HA6.out); have HB7 := Aside0.mk (HB6.out.trans (hb7.mono HUW.out)); have HX7 := Aside0.mk (blk_kept HX6.out hk7 HNU6.out)
     clear y0 y1 y2 y3 y4 y5 hp7 hk7 hb7 H6 HU6 HA6 HB6 HX6 HNU6
     have n4 : ((F.length : Int) + 1 != (F.length : Int) + 1) = false := bne_self_eq_false _
     obtain ⟨Lz, hLz⟩ : ∃ Lz, Lz = L := ⟨_, rfl⟩
     obtain ⟨Fz, hFz⟩ : ∃ Fz, Fz = F ++ [true] := ⟨_, rfl⟩
     have HLz : Aside0 (Lz.length ≤ i + 1 ∧ Fz.length ≤ i + 1 ∧ OkT l0 Lz ∧ FB Lz Fz) := ⟨by rw [hLz, hFz]; exact ⟨by have := HL.out.1; omega, by rw [List.length_append]; have := HL.out.2.1; simp only [List.length_singleton]; omega, HL.out.2.2.1, fb_enter HL.out.2.2.2⟩⟩
     have HFz : Aside0 (fr = frN Lz) := ⟨by rw [hLz]; exact HFR.out⟩
     rw [← hLz, ← hFz] at H7 HU7
     clear hLz hFz HL
     obtain ⟨y0, y1, y2, y3, y4, y5, -⟩ := bk6 HX7.out
     go_wp2_with fail
     refine (store_Get.calls x.f3 x.f4 H7.out).mono ?_
     rintro e wA ⟨rfl, hbA⟩
     have HBA := Aside0.mk (below_step HB7.out hbA); have HTA := Aside0.mk (H7.out.below hbA); have HUA := Aside0.mk (SV.below HU7.out hbA); have HXA := Aside0.mk (blk_below HX7.out hbA)
     clear y0 y1 y2 y3 y4 y5 hbA HB7 H7 HU7 HX7
     obtain ⟨y0, y1, y2, y3, y4, y5, -⟩ := bk6 HXA.out
     go_wp2_with fail
     refine (ref12_Get.calls x.f3 x.f4 HUA.out).mono ?_
     rintro e wC ⟨rfl, hbC⟩
     have HBC := Aside0.mk (below_step HBA.out hbC); have HTC := Aside0.mk (HTA.out.below hbC); have HUC := Aside0.mk (SV.below HUA.out hbC)
     clear y0 y1 y2 y3 y4 y5 hbC HBA HTA HUA HXA
     have n1 : (getS Lz Fz x.f3 x.f4 != getS Lz Fz x.f3 x.f4) = false := bne_self_eq_false _
     have n2 : (chkS Lz Fz x.f3 x.f4 != chkS Lz Fz x.f3 x.f4) = false := bne_self_eq_false _
     have n3 : (fr != fr) = false := bne_self_eq_false _
     have HM1 : Aside0 (madeS Lz true = fr) := ⟨HFz.out.symm⟩
     obtain ⟨nf, hnf⟩ : ∃ nf, nf = madeS Lz false := ⟨_, rfl⟩
     have HM2 : Aside0 (madeS Lz false = nf) := ⟨hnf.symm⟩
     have n5 : (nf != nf) = false := bne_self_eq_false _
     have hwn : IntKind.i64.wrap ((Lz.length : Int) - fr) = nf := by
      have h1 := frN_0 Lz
      have h2 := HLz.out.1
      have h3 : nf = (Lz.length : Int) - frN Lz := hnf
      rw [HFz.out, IntKind.wrap_i64, h3]
      omega
     clear hnf
     obtain ⟨svU, lvU, fvU, sokU, lokU, fokU, hsu, -⟩ := HUC.out
     obtain ⟨Al, cl, el, -, hml⟩ := hsu.list
     rw [L4_len] at el hml
     subst el
     have HSU := Aside0.mk hsu
     clear hsu
     go_upto_region 39 with (fail)
     have HB2 := Aside0.mk (below_drew1 HBC.out)
     have H2r := Aside0.mk (HTC.out.below (below_drew1 (Below.refl _ _)))
     have HU2r := Aside0.mk (SV.below HUC.out (below_drew1 (Below.refl _ _)))
     have HSU2 := Aside0.mk (HSU.out.below (below_drew1 (Below.refl _ _)))
     clear HBC HTC HUC HSU
     refine start_ (n := 26) (S := fun w' => w'.heap[u]? = some (.cells #[svU, .slice Al Lz.length cl, fvU] 92 (0, 0))) (ds := []) (tf 0 26) (by kernel_rfl) rfl rfl (HSU2.out.blk) (fun hHeld => ?_)
     refine with_tabW truantlaw12_StoreExact.tab39 truantlaw12_StoreExact.bits39 (fun HT_ HW_ => ?_)
     generalize wC.drew = w3a at HB2 H2r HU2r HSU2 hHeld ⊢
     refine pure_ (i := 0) (N := some 234) (v := ?_) (a' := ?_) (tf 1 25) rfl rfl (any_of HT_.out (by kernel_rfl)) (fun _ _ _ h => h) (Or.inl ⟨by rfl, ?_⟩) ?_ ?_
     rotate_left
     ·intro w'
      go_simp
      with_reducible rfl
     rotate_left
     ·simp only [Act.put, List.setIfInBounds_toArray, List.set_cons_zero, List.set_cons_succ, i64_w, i32_w]
      rfl
     refine pure_ (i := 1) (N := some 235) (v := ?_) (a' := ?_) (tf 2 24) rfl rfl (any_of HT_.out (by kernel_rfl)) (fun _ _ _ h => h) (Or.inl ⟨by rfl, ?_⟩) ?_ ?_
     rotate_left
     ·intro w'
      go_simp
      with_reducible rfl
     rotate_left
     ·simp only [Act.put, List.setIfInBounds_toArray, List.set_cons_zero, List.set_cons_succ, i64_w, i32_w]
      rfl
     refine pure_ (i := 2) (N := some 236) (v := ?_) (a' := ?_) (tf 3 23) rfl rfl (any_of HT_.out (by kernel_rfl)) (fun _ _ _ h => h) (Or.inl ⟨by rfl, ?_⟩) ?_ ?_
     rotate_left
     ·intro w'
      go_simp
      with_reducible rfl
     rotate_left
     ·simp only [Act.put, List.setIfInBounds_toArray, List.set_cons_zero, List.set_cons_succ, i64_w, i32_w]
      rfl
     refine pure_ (i := 3) (N := some 237) (v := ?_) (a' := ?_) (tf 4 22) rfl rfl (any_of HT_.out (by kernel_rfl)) (fun _ _ _ h => h) (Or.inl ⟨by rfl, ?_⟩) ?_ ?_
     rotate_left
     ·intro w'
      go_simp
      with_reducible rfl
     rotate_left
     ·simp only [Act.put, List.setIfInBounds_toArray, List.set_cons_zero, List.set_cons_succ, i64_w, i32_w]
      rfl
     refine pure_ (i := 4) (N := some 238) (v := ?_) (a' := ?_) (tf 5 21) rfl rfl (any_of HT_.out (by kernel_rfl)) (fun _ _ _ h => h) (Or.inl ⟨by rfl, ?_⟩) ?_ ?_
     rotate_left
     ·intro w'
      go_simp
      with_reducible rfl
     rotate_left
     ·simp only [Act.put, List.setIfInBounds_toArray, List.set_cons_zero, List.set_cons_succ, i64_w, i32_w]
      rfl
     refine pure_ (i := 5) (N := some 239) (v := ?_) (a' := ?_) (tf 6 20) rfl rfl (any_of HT_.out (by kernel_rfl)) (fun _ _ _ h => h) (Or.inl ⟨by rfl, ?_⟩) ?_ ?_
     rotate_left
     ·intro w'
      go_simp
      with_reducible rfl
     rotate_left
     ·simp only [Act.put, List.setIfInBounds_toArray, List.set_cons_zero, List.set_cons_succ, i64_w, i32_w]
      rfl
     refine pure_ (i := 6) (N := some 240) (v := ?_) (a' := ?_) (tf 7 19) rfl rfl (any_of HT_.out (by kernel_rfl)) (fun _ _ _ h => h) (Or.inl ⟨by rfl, ?_⟩) ?_ ?_
     rotate_left
     ·intro w'
      go_simp
      with_reducible rfl
     rotate_left
     ·simp only [Act.put, List.setIfInBounds_toArray, List.set_cons_zero, List.set_cons_succ, i64_w, i32_w]
      rfl
     refine pure_ (i := 7) (N := some 241) (v := ?_) (a' := ?_) (tf 8 18) rfl rfl (any_of HT_.out (by kernel_rfl)) (fun _ _ _ h => h) (Or.inl ⟨by rfl, ?_⟩) ?_ ?_
     rotate_left
     ·intro w'
      go_simp
      with_reducible rfl
     rotate_left
     ·simp only [Act.put, List.setIfInBounds_toArray, List.set_cons_zero, List.set_cons_succ, i64_w, i32_w]
      rfl
     refine pure_ (i := 8) (N := some 242) (v := ?_) (a' := ?_) (tf 9 17) rfl rfl (any_of HT_.out (by kernel_rfl)) (fun _ _ _ h => h) (Or.inl ⟨by rfl, ?_⟩) ?_ ?_
     rotate_left
     ·intro w'
      go_simp
      with_reducible rfl
     rotate_left
     ·simp only [Act.put, List.setIfInBounds_toArray, List.set_cons_zero, List.set_cons_succ, i64_w, i32_w]
      rfl
     refine pure_ (i := 9) (N := some 243) (v := ?_) (a' := ?_) (tf 10 16) rfl rfl (any_of HT_.out (by kernel_rfl)) (fun _ _ _ h => h) (Or.inl ⟨by rfl, ?_⟩) ?_ ?_
     rotate_left
     ·intro w'
      go_simp
      with_reducible rfl
     rotate_left
     ·simp only [Act.put, List.setIfInBounds_toArray, List.set_cons_zero, List.set_cons_succ, i64_w, i32_w]
      rfl
     refine pure_ (i := 11) (N := some 245) (v := ?_) (a' := ?_) #[true, true, true, true, true, true, true, true, true, true, false, true, false, false, false, false, false, false, false, false, false, false, false, false, false, false] rfl rfl (any_of HT_.out (by kernel_rfl)) (fun _ _ _ h => h) (Or.inl ⟨by rfl, ?_⟩) ?_ ?_
     rotate_left
     ·intro w'
      go_simp
      with_reducible rfl
     rotate_left
     ·simp only [Act.put, List.setIfInBounds_toArray, List.set_cons_zero, List.set_cons_succ, i64_w, i32_w]
      rfl
     refine one_ (i := 10) (N := some 244) (tf 12 14) rfl rfl (one_of HT_.out (by kernel_rfl)) (by decide) (fun K hK => ?_)
     refine goes_ Try.func57 (by kernel_rfl) rfl #[ptr g, .bool true] (by rfl) rfl rfl (by simp only [List.map_toArray, List.map_cons, List.map_nil]; rfl) ?_
     have hmt := store_Made.calls true H2r.out
     rw [HM1.out] at hmt
     refine hmt.mono ?_
     clear hmt
     rintro e w9 ⟨rfl, hb9⟩
     refine ⟨_, rfl, ?_⟩
     have HB9 := Aside0.mk (below_step HB2.out hb9); have H9 := Aside0.mk (H2r.out.below hb9); have HU9 := Aside0.mk (SV.below HU2r.out hb9)
     refine hK.out _ _ ((blkB hHeld hb9)) (fun hHeld => ?_)
     clear hK K
     refine norm_ (a' := ?_) ?_ ?_
     rotate_left
     ·show Act.put _ (some 244) _ = _
      simp only [Act.put, List.setIfInBounds_toArray, List.set_cons_zero, List.set_cons_succ, i64_w, i32_w]
      rfl
     refine pure_ (i := 12) (N := some 246) (v := ?_) (a' := ?_) (tf 13 13) rfl rfl (any_of HT_.out (by kernel_rfl)) (fun _ _ _ h => h) (Or.inl ⟨by rfl, ?_⟩) ?_ ?_
     rotate_left
     ·intro w'
      go_simp
      with_reducible rfl
     rotate_left
     ·simp only [Act.put, List.setIfInBounds_toArray, List.set_cons_zero, List.set_cons_succ, i64_w, i32_w]
      rfl
     refine pure_ (i := 13) (N := some 247) (v := ?_) (a' := ?_) (tf 14 12) rfl rfl (any_of HT_.out (by kernel_rfl)) (fun _ _ _ h => h) (Or.inl ⟨by rfl, ?_⟩) ?_ ?_
     rotate_left
     ·intro w'
      go_simp
      with_reducible rfl
     rotate_left
     ·simp only [Act.put, List.setIfInBounds_toArray, List.set_cons_zero, List.set_cons_succ, i64_w, i32_w]
      rfl
     refine pure_ (i := 14) (N := some 248) (v := ?_) (a' := ?_) (tf 15 11) rfl rfl (any_of HT_.out (by kernel_rfl)) (fun _ _ _ h => h) (Or.inl ⟨by rfl, ?_⟩) ?_ ?_
     rotate_left
     ·intro w'
      go_simp
      with_reducible rfl
     rotate_left
     ·simp only [Act.put, List.setIfInBounds_toArray, List.set_cons_zero, List.set_cons_succ, i64_w, i32_w]
      rfl
     refine pure_ (i := 15) (N := some 249) (v := ?_) (a' := ?_) (tf 16 10) rfl rfl (any_of HT_.out (by kernel_rfl)) (fun _ _ _ h => h) (Or.inl ⟨by rfl, ?_⟩) ?_ ?_
     rotate_left
     ·intro w'
      go_simp
      with_reducible rfl
     rotate_left
     ·simp only [Act.put, List.setIfInBounds_toArray, List.set_cons_zero, List.set_cons_succ, i64_w, i32_w]
      rfl
     refine pure_ (i := 17) (N := some 251) (v := ?_) (a' := ?_) #[true, true, true, true, true, true, true, true, true, true, true, true, true, true, true, true, false, true, false, false, false, false, false, false, false, false] rfl rfl (any_of HT_.out (by kernel_rfl)) (fun _ _ _ h => h) (Or.inl ⟨by rfl, ?_⟩) ?_ ?_
     rotate_left
     ·intro w'
      go_simp
      with_reducible rfl
     rotate_left
     ·simp only [Act.put, List.setIfInBounds_toArray, List.set_cons_zero, List.set_cons_succ, i64_w, i32_w]
      rfl
     refine pure_ (i := 18) (N := some 252) (v := ?_) (a' := ?_) #[true, true, true, true, true, true, true, true, true, true, true, true, true, true, true, true, false, true, true, false, false, false, false, false, false, false] rfl rfl (any_of HT_.out (by kernel_rfl)) (fun _ _ _ h => h) (Or.inl ⟨by rfl, ?_⟩) ?_ ?_
     rotate_left
     ·intro w'
      go_simp
      with_reducible rfl
     rotate_left
     ·simp only [Act.put, List.setIfInBounds_toArray, List.set_cons_zero, List.set_cons_succ, i64_w, i32_w]
      rfl
     refine pure_ (i := 19) (N := some 253) (v := ?_) (a' := ?_) #[true, true, true, true, true, true, true, true, true, true, true, true, true, true, true, true, false, true, true, true, false, false, false, false, false, false] rfl rfl (any_of HT_.out (by kernel_rfl)) (fun _ _ _ h => h) (Or.inl ⟨by rfl, ?_⟩) ?_ ?_
     rotate_left
     ·intro w'
      go_simp
      with_reducible rfl
     rotate_left
     ·simp only [Act.put, List.setIfInBounds_toArray, List.set_cons_zero, List.set_cons_succ, i64_w, i32_w]
      rfl
     refine pure_ (i := 22) (N := some 256) (v := ?_) (a' := ?_) #[true, true, true, true, true, true, true, true, true, true, true, true, true, true, true, true, false, true, true, true, false, false, true, false, false, false] rfl rfl (any_of HT_.out (by kernel_rfl)) (fun _ _ _ h => h) (Or.inl ⟨by rfl, ?_⟩) ?_ ?_
     rotate_left
     ·intro w'
      go_simp
      with_reducible rfl
     rotate_left
     ·simp only [Act.put, List.setIfInBounds_toArray, List.set_cons_zero, List.set_cons_succ, i64_w, i32_w]
      rfl
     refine take_ (i := 20) (N := some 254) (v := ?_) (a' := ?_) #[true, true, true, true, true, true, true, true, true, true, true, true, true, true, true, true, false, true, true, true, true, false, true, false, false, false] rfl rfl (take_ofW HT_.out HW_.out (by kernel_rfl)) (fun _ _ _ h => h) (Or.inl ⟨by rfl, ?_⟩) hHeld ?_ ?_
     rotate_left
     ·intro w' s0
      obtain ⟨z0, z1, z2, -, -, -⟩ := bk3 s0
      go_simp
      with_reducible rfl
     rotate_left
     ·simp only [Act.put, List.setIfInBounds_toArray, List.set_cons_zero, List.set_cons_succ, i64_w, i32_w]
      rfl
     refine pure_ (i := 21) (N := some 255) (v := ?_) (a' := ?_) #[true, true, true, true, true, true, true, true, true, true, true, true, true, true, true, true, false, true, true, true, true, true, true, false, false, false] rfl rfl (any_of HT_.out (by kernel_rfl)) (fun _ _ _ h => h) (Or.inl ⟨by rfl, ?_⟩) ?_ ?_
     rotate_left
     ·intro w'
      go_simp
      with_reducible rfl
     rotate_left
     ·simp only [Act.put, List.setIfInBounds_toArray, List.set_cons_zero, List.set_cons_succ, i64_w, i32_w]
      rfl
     refine pure_ (i := 23) (N := some 257) (v := ?_) (a' := ?_) #[true, true, true, true, true, true, true, true, true, true, true, true, true, true, true, true, false, true, true, true, true, true, true, true, false, false] rfl rfl (any_of HT_.out (by kernel_rfl)) (fun _ _ _ h => h) (Or.inl ⟨by rfl, ?_⟩) ?_ ?_
     rotate_left
     ·intro w'
      go_simp
      with_reducible rfl
     rotate_left
     ·simp only [Act.put, List.setIfInBounds_toArray, List.set_cons_zero, List.set_cons_succ, i64_w, i32_w]
      rfl
     refine one_ (i := 16) (N := some 250) (tf 24 2) rfl rfl (one_of HT_.out (by kernel_rfl)) (by decide) (fun K hK => ?_)
     refine goes_ Try.func57 (by kernel_rfl) rfl #[ptr g, .bool false] (by rfl) rfl rfl (by simp only [List.map_toArray, List.map_cons, List.map_nil]; rfl) ?_
     have hmt := store_Made.calls false H9.out
     rw [HM2.out] at hmt
     refine hmt.mono ?_
     clear hmt
     rintro e w10 ⟨rfl, hb10⟩
     refine ⟨_, rfl, ?_⟩
     have HBf := Aside0.mk (below_step HB9.out hb10); have Hf := Aside0.mk (H9.out.below hb10); have HUf := Aside0.mk (SV.below HU9.out hb10)
     refine hK.out _ _ ((blkB hHeld hb10)) (fun hHeld => ?_)
     clear hK K
     refine norm_ (a' := ?_) ?_ ?_
     rotate_left
     ·show Act.put _ (some 250) _ = _
      simp only [Act.put, List.setIfInBounds_toArray, List.set_cons_zero, List.set_cons_succ, i64_w, i32_w]
      rfl
     refine pure_ (i := 24) (N := some 258) (v := ?_) (a' := ?_) (tf 25 1) rfl rfl (any_of HT_.out (by kernel_rfl)) (fun _ _ _ h => h) (Or.inl ⟨by rfl, ?_⟩) ?_ ?_
     rotate_left
     ·intro w'
      go_simp
      with_reducible rfl
     rotate_left
     ·simp only [Act.put, List.setIfInBounds_toArray, List.set_cons_zero, List.set_cons_succ, i64_w, i32_w]
      rfl
     refine pure_ (i := 25) (N := some 259) (v := ?_) (a' := ?_) (tf 26 0) rfl rfl (any_of HT_.out (by kernel_rfl)) (fun _ _ _ h => h) (Or.inl ⟨by rfl, ?_⟩) ?_ ?_
     rotate_left
     ·intro w'
      go_simp
      with_reducible rfl
     rotate_left
     ·simp only [Act.put, List.setIfInBounds_toArray, List.set_cons_zero, List.set_cons_succ, i64_w, i32_w]
      rfl
     refine done_ (done_of HT_.out (by kernel_rfl)) ?_
     clear n1 n2 n3 n5 hwn HM1 HM2
     go_wp2
     go_roundw
     case rel => exact ⟨i + 1, fr, Lz, Fz, _, _, rfl, by go_num, by omega, HFz, HLz, HBf, Hf, HUf, HA7⟩
     case measure => simp [intOf]; omega
   ·by_cases h2 : kd = 2
    ·subst h2
     as_aux_lemma =>
      obtain ⟨y0, y1, y2, y3, y4, y5, -⟩ := bk6 HXB.out
      go_upto_region 22 with (fail)
      clear y0 y1 y2 y3 y4 y5
      have HB3 := Aside0.mk (below_drew1 HB2.out)
      have H3 := Aside0.mk (H2.out.below (below_drew1 (Below.refl _ _)))
      have HU3 := Aside0.mk (SV.below HU2.out (below_drew1 (Below.refl _ _)))
      have HX3 := Aside0.mk (blk_drew HXB.out)
      have n4 : (leaveE F x.f1 != leaveE F x.f1) = false := bne_self_eq_false _
      clear H2 HU2 HB2 HXB
      refine start_ (n := 9) (S := fun w' => w'.heap[nb]? = some (.cells #[.int .i64 _, .int .i64 x.f1, .string x.f2, .int .i64 x.f3, .int .i64 x.f4, .int .i64 x.f5] 94 (0, 0))) (ds := []) (tf 0 9) (by kernel_rfl) rfl rfl (HX3.out) (fun hHeld => ?_)
      refine with_tabW truantlaw12_StoreExact.tab22 truantlaw12_StoreExact.bits22 (fun HT_ HW_ => ?_)
      generalize wa.drew = w3a at HB3 H3 HU3 HX3 hHeld ⊢
      refine pure_ (i := 0) (N := some 148) (v := ?_) (a' := ?_) (tf 1 8) rfl rfl (any_of HT_.out (by kernel_rfl)) (fun _ _ _ h => h) (Or.inl ⟨by rfl, ?_⟩) ?_ ?_
      rotate_left
      ·intro w'
       go_simp
       with_reducible rfl
      rotate_left
      ·simp only [Act.put, List.setIfInBounds_toArray, List.set_cons_zero, List.set_cons_succ, i64_w, i32_w]
       rfl
      refine pure_ (i := 1) (N := some 149) (v := ?_) (a' := ?_) (tf 2 7) rfl rfl (any_of HT_.out (by kernel_rfl)) (fun _ _ _ h => h) (Or.inl ⟨by rfl, ?_⟩) ?_ ?_
      rotate_left
      ·intro w'
       go_simp
       with_reducible rfl
      rotate_left
      ·simp only [Act.put, List.setIfInBounds_toArray, List.set_cons_zero, List.set_cons_succ, i64_w, i32_w]
       rfl
      refine pure_ (i := 4) (N := some 152) (v := ?_) (a' := ?_) #[true, true, false, false, true, false, false, false, false] rfl rfl (any_of HT_.out (by kernel_rfl)) (fun _ _ _ h => h) (Or.inl ⟨by rfl, ?_⟩) ?_ ?_
      rotate_left
      ·intro w'
       go_simp
       with_reducible rfl
      rotate_left
      ·simp only [Act.put, List.setIfInBounds_toArray, List.set_cons_zero, List.set_cons_succ, i64_w, i32_w]
       rfl
      refine pure_ (i := 5) (N := some 153) (v := ?_) (a' := ?_) #[true, true, false, false, true, true, false, false, false] rfl rfl (any_of HT_.out (by kernel_rfl)) (fun _ _ _ h => h) (Or.inl ⟨by rfl, ?_⟩) ?_ ?_
      rotate_left
      ·intro w'
       go_simp
       with_reducible rfl
      rotate_left
      ·simp only [Act.put, List.setIfInBounds_toArray, List.set_cons_zero, List.set_cons_succ, i64_w, i32_w]
       rfl
      refine take_ (i := 2) (N := some 150) (v := ?_) (a' := ?_) #[true, true, true, false, true, true, false, false, false] rfl rfl (take_ofW HT_.out HW_.out (by kernel_rfl)) (fun _ _ _ h => h) (Or.inl ⟨by rfl, ?_⟩) hHeld ?_ ?_
      rotate_left
      ·intro w' s0
       obtain ⟨c0_, c1_, c2_, c3_, c4_, c5_, -⟩ := bk6 s0
       go_simp
       with_reducible rfl
      rotate_left
      ·simp only [Act.put, List.setIfInBounds_toArray, List.set_cons_zero, List.set_cons_succ, i64_w, i32_w]
       rfl
      refine take_ (i := 6) (N := some 154) (v := ?_) (a' := ?_) #[true, true, true, false, true, true, true, false, false] rfl rfl (take_ofW HT_.out HW_.out (by kernel_rfl)) (fun _ _ _ h => h) (Or.inl ⟨by rfl, ?_⟩) hHeld ?_ ?_
      rotate_left
      ·intro w' s0
       obtain ⟨c0_, c1_, c2_, c3_, c4_, c5_, -⟩ := bk6 s0
       go_simp
       with_reducible rfl
      rotate_left
      ·simp only [Act.put, List.setIfInBounds_toArray, List.set_cons_zero, List.set_cons_succ, i64_w, i32_w]
       rfl
      refine one_ (i := 3) (N := some 151) (tf 7 2) rfl rfl (one_of HT_.out (by kernel_rfl)) (by decide) (fun K hK => ?_)
      refine goes_ Try.func53 (by kernel_rfl) rfl #[ptr g, .int .i64 x.f1] (by rfl) rfl rfl (by simp only [List.map_toArray, List.map_cons, List.map_nil]; rfl) ?_
      refine (store_Leave.calls x.f1 H3.out).mono ?_
      rintro e w6 ⟨rfl, hp6, hk6, hb6⟩
      refine ⟨_, rfl, ?_⟩
      have H6 := Aside0.mk hp6; have HU6 := Aside0.mk (SW.beside HU3.out hk6 HA.out); have HA6 := Aside0.mk (apart_l (w := w3a) HA.out)
      have HB6 := Aside0.mk (HB3.out.trans (hb6.mono HW.out)); have HX6 := Aside0.mk (blk_kept hHeld hk6 HNT.out)
      have HNU6 : Aside0 (¬ (U nb ∧ nb < w3a.heap.size)) := ⟨fun h_ => HNU.out h_.1⟩
      clear hp6 hk6 hb6
      refine hK.out _ _ (HX6.out) (fun hHeld => ?_)
      clear hK K
      refine norm_ (a' := ?_) ?_ ?_
      rotate_left
      ·show Act.put _ (some 151) _ = _
       simp only [Act.put, List.setIfInBounds_toArray, List.set_cons_zero, List.set_cons_succ, i64_w, i32_w]
       rfl
      refine one_ (i := 7) (N := some 155) (tf 8 1) rfl rfl (one_of HT_.out (by kernel_rfl)) (by decide) (fun K hK => ?_)
      refine goes_ Try.func61 (by kernel_rfl) rfl #[ptr u, .int .i64 x.f1] (by rfl) rfl rfl (by simp only [List.map_toArray, List.map_cons, List.map_nil]; rfl) ?_
      refine (ref12_Leave.calls x.f1 HU6.out (by have := HL.out.1; omega)).mono ?_
      rintro e w7 ⟨rfl, hp7, hk7, hb7⟩
      refine ⟨_, rfl, ?_⟩
      have HU7 := Aside0.mk hp7; have H7 := Aside0.mk (H6.out.beside hk7 (fun k hu ht => HA6.out k ht hu)); have HA7 := Aside0.mk (apart_r (w := w6) HA6.out)
      have HB7 := Aside0.mk (HB6.out.trans (hb7.mono HUW.out)); have HX7 := Aside0.mk (blk_kept hHeld hk7 HNU6.out)
      clear hp7 hk7 hb7
      refine hK.out _ _ (HX7.out) (fun hHeld => ?_)
      clear hK K
      refine norm_ (a' := ?_) ?_ ?_
      rotate_left
      ·show Act.put _ (some 155) _ = _
       simp only [Act.put, List.setIfInBounds_toArray, List.set_cons_zero, List.set_cons_succ, i64_w, i32_w]
       rfl
      refine pure_ (i := 8) (N := some 156) (v := ?_) (a' := ?_) (tf 9 0) rfl rfl (any_of HT_.out (by kernel_rfl)) (fun _ _ _ h => h) (Or.inl ⟨by rfl, ?_⟩) ?_ ?_
      rotate_left
      ·intro w'
       go_simp
       with_reducible rfl
      rotate_left
      ·simp only [Act.put, List.setIfInBounds_toArray, List.set_cons_zero, List.set_cons_succ, i64_w, i32_w]
       rfl
      refine done_ (done_of HT_.out (by kernel_rfl)) ?_
      obtain ⟨Lz, hLz⟩ : ∃ Lz, Lz = L := ⟨_, rfl⟩
      obtain ⟨Fz, hFz⟩ : ∃ Fz, Fz = leaveF F x.f1 := ⟨_, rfl⟩
      have HLz : Aside0 (Lz.length ≤ i + 1 ∧ Fz.length ≤ i + 1 ∧ OkT l0 Lz ∧ FB Lz Fz) := ⟨by rw [hLz, hFz]; exact ⟨by have := HL.out.1; omega, by rw [leaveF_len]; have := HL.out.2.1; omega, HL.out.2.2.1, fb_leave HL.out.2.2.2 x.f1⟩⟩
      have HFz : Aside0 (fr = frN Lz) := ⟨by rw [hLz]; exact HFR.out⟩
      rw [← hLz, ← hFz] at H7 HU7
      clear hLz hFz HL
      obtain ⟨y0, y1, y2, y3, y4, y5, -⟩ := bk6 HX7.out
      go_wp2_with fail
      refine (store_Get.calls x.f3 x.f4 H7.out).mono ?_
      rintro e wA ⟨rfl, hbA⟩
      have HBA := Aside0.mk (below_step HB7.out hbA); have HTA := Aside0.mk (H7.out.below hbA); have HUA := Aside0.mk (SV.below HU7.out hbA); have HXA := Aside0.mk (blk_below HX7.out hbA)
      clear y0 y1 y2 y3 y4 y5 hbA HB7 H7 HU7 HX7
      obtain ⟨y0, y1, y2, y3, y4, y5, -⟩ := bk6 HXA.out
      go_wp2_with fail
      refine (ref12_Get.calls x.f3 x.f4 HUA.out).mono ?_
      rintro e wC ⟨rfl, hbC⟩
      have HBC := Aside0.mk (below_step HBA.out hbC); have HTC := Aside0.mk (HTA.out.below hbC); have HUC := Aside0.mk (SV.below HUA.out hbC)
      clear y0 y1 y2 y3 y4 y5 hbC HBA HTA HUA HXA
      have n1 : (getS Lz Fz x.f3 x.f4 != getS Lz Fz x.f3 x.f4) = false := bne_self_eq_false _
      have n2 : (chkS Lz Fz x.f3 x.f4 != chkS Lz Fz x.f3 x.f4) = false := bne_self_eq_false _
      have n3 : (fr != fr) = false := bne_self_eq_false _
      have HM1 : Aside0 (madeS Lz true = fr) := ⟨HFz.out.symm⟩
      obtain ⟨nf, hnf⟩ : ∃ nf, nf = madeS Lz false := ⟨_, rfl⟩
      have HM2 : Aside0 (madeS Lz false = nf) := ⟨hnf.symm⟩
      have n5 : (nf != nf) = false := bne_self_eq_false _
      have hwn : IntKind.i64.wrap ((Lz.length : Int) - fr) = nf := by
       have h1 := frN_0 Lz
       have h2 := HLz.out.1
       have h3 : nf = (Lz.length : Int) - frN Lz := hnf
       rw [HFz.out, IntKind.wrap_i64, h3]
       omega
      clear hnf
      obtain ⟨svU, lvU, fvU, sokU, lokU, fokU, hsu, -⟩ := HUC.out
      obtain ⟨Al, cl, el, -, hml⟩ := hsu.list
      rw [L4_len] at el hml
      subst el
      have HSU := Aside0.mk hsu
      clear hsu
      go_upto_region 39 with (fail)
      have HB2 := Aside0.mk (below_drew1 HBC.out)
      have H2r := Aside0.mk (HTC.out.below (below_drew1 (Below.refl _ _)))
      have HU2r := Aside0.mk (SV.below HUC.out (below_drew1 (Below.refl _ _)))
      have HSU2 := Aside0.mk (HSU.out.below (below_drew1 (Below.refl _ _)))
      clear HBC HTC HUC HSU
      refine start_ (n := 26) (S := fun w' => w'.heap[u]? = some (.cells #[svU, .slice Al Lz.length cl, fvU] 92 (0, 0))) (ds := []) (tf 0 26) (by kernel_rfl) rfl rfl (HSU2.out.blk) (fun hHeld => ?_)
      refine with_tabW truantlaw12_StoreExact.tab39 truantlaw12_StoreExact.bits39 (fun HT_ HW_ => ?_)
      generalize wC.drew = w3a at HB2 H2r HU2r HSU2 hHeld ⊢
      refine pure_ (i := 0) (N := some 234) (v := ?_) (a' := ?_) (tf 1 25) rfl rfl (any_of HT_.out (by kernel_rfl)) (fun _ _ _ h => h) (Or.inl ⟨by rfl, ?_⟩) ?_ ?_
      rotate_left
      ·intro w'
       go_simp
       with_reducible rfl
      rotate_left
      ·simp only [Act.put, List.setIfInBounds_toArray, List.set_cons_zero, List.set_cons_succ, i64_w, i32_w]
       rfl
      refine pure_ (i := 1) (N := some 235) (v := ?_) (a' := ?_) (tf 2 24) rfl rfl (any_of HT_.out (by kernel_rfl)) (fun _ _ _ h => h) (Or.inl ⟨by rfl, ?_⟩) ?_ ?_
      rotate_left
      ·intro w'
       go_simp
       with_reducible rfl
      rotate_left
      ·simp only [Act.put, List.setIfInBounds_toArray, List.set_cons_zero, List.set_cons_succ, i64_w, i32_w]
       rfl
      refine pure_ (i := 2) (N := some 236) (v := ?_) (a' := ?_) (tf 3 23) rfl rfl (any_of HT_.out (by kernel_rfl)) (fun _ _ _ h => h) (Or.inl ⟨by rfl, ?_⟩) ?_ ?_
      rotate_left
      ·intro w'
       go_simp
       with_reducible rfl
      rotate_left
      ·simp only [Act.put, List.setIfInBounds_toArray, List.set_cons_zero, List.set_cons_succ, i64_w, i32_w]
       rfl
      refine pure_ (i := 3) (N := some 237) (v := ?_) (a' := ?_) (tf 4 22) rfl rfl (any_of HT_.out (by kernel_rfl)) (fun _ _ _ h => h) (Or.inl ⟨by rfl, ?_⟩) ?_ ?_
      rotate_left
      ·intro w'
       go_simp
       with_reducible rfl
      rotate_left
      ·simp only [Act.put, List.setIfInBounds_toArray, List.set_cons_zero, List.set_cons_succ, i64_w, i32_w]
       rfl
      refine pure_ (i := 4) (N := some 238) (v := ?_) (a' := ?_) (tf 5 21) rfl rfl (any_of HT_.out (by kernel_rfl)) (fun _ _ _ h => h) (Or.inl ⟨by rfl, ?_⟩) ?_ ?_
      rotate_left
      ·intro w'
       go_simp
       with_reducible rfl
      rotate_left
      ·simp only [Act.put, List.setIfInBounds_toArray, List.set_cons_zero, List.set_cons_succ, i64_w, i32_w]
       rfl
      refine pure_ (i := 5) (N := some 239) (v := ?_) (a' := ?_) (tf 6 20) rfl rfl (any_of HT_.out (by kernel_rfl)) (fun _ _ _ h => h) (Or.inl ⟨by rfl, ?_⟩) ?_ ?_
      rotate_left
      ·intro w'
       go_simp
       with_reducible rfl
      rotate_left
      ·simp only [Act.put, List.setIfInBounds_toArray, List.set_cons_zero, List.set_cons_succ, i64_w, i32_w]
       rfl
      refine pure_ (i := 6) (N := some 240) (v := ?_) (a' := ?_) (tf 7 19) rfl rfl (any_of HT_.out (by kernel_rfl)) (fun _ _ _ h => h) (Or.inl ⟨by rfl, ?_⟩) ?_ ?_
      rotate_left
      ·intro w'
       go_simp
       with_reducible rfl
      rotate_left
      ·simp only [Act.put, List.setIfInBounds_toArray, List.set_cons_zero, List.set_cons_succ, i64_w, i32_w]
       rfl
      refine pure_ (i := 7) (N := some 241) (v := ?_) (a' := ?_) (tf 8 18) rfl rfl (any_of HT_.out (by kernel_rfl)) (fun _ _ _ h => h) (Or.inl ⟨by rfl, ?_⟩) ?_ ?_
      rotate_left
      ·intro w'
       go_simp
       with_reducible rfl
      rotate_left
      ·simp only [Act.put, List.setIfInBounds_toArray, List.set_cons_zero, List.set_cons_succ, i64_w, i32_w]
       rfl
      refine pure_ (i := 8) (N := some 242) (v := ?_) (a' := ?_) (tf 9 17) rfl rfl (any_of HT_.out (by kernel_rfl)) (fun _ _ _ h => h) (Or.inl ⟨by rfl, ?_⟩) ?_ ?_
      rotate_left
      ·intro w'
       go_simp
       with_reducible rfl
      rotate_left
      ·simp only [Act.put, List.setIfInBounds_toArray, List.set_cons_zero, List.set_cons_succ, i64_w, i32_w]
       rfl
      refine pure_ (i := 9) (N := some 243) (v := ?_) (a' := ?_) (tf 10 16) rfl rfl (any_of HT_.out (by kernel_rfl)) (fun _ _ _ h => h) (Or.inl ⟨by rfl, ?_⟩) ?_ ?_
      rotate_left
      ·intro w'
       go_simp
       with_reducible rfl
      rotate_left
      ·simp only [Act.put, List.setIfInBounds_toArray, List.set_cons_zero, List.set_cons_succ, i64_w, i32_w]
       rfl
      refine pure_ (i := 11) (N := some 245) (v := ?_) (a' := ?_) #[true, true, true, true, true, true, true, true, true, true, false, true, false, false, false, false, false, false, false, false, false, false, false, false, false, false] rfl rfl (any_of HT_.out (by kernel_rfl)) (fun _ _ _ h => h) (Or.inl ⟨by rfl, ?_⟩) ?_ ?_
      rotate_left
      ·intro w'
       go_simp
       with_reducible rfl
      rotate_left
      ·simp only [Act.put, List.setIfInBounds_toArray, List.set_cons_zero, List.set_cons_succ, i64_w, i32_w]
       rfl
      refine one_ (i := 10) (N := some 244) (tf 12 14) rfl rfl (one_of HT_.out (by kernel_rfl)) (by decide) (fun K hK => ?_)
      refine goes_ Try.func57 (by kernel_rfl) rfl #[ptr g, .bool true] (by rfl) rfl rfl (by simp only [List.map_toArray, List.map_cons, List.map_nil]; rfl) ?_
      have hmt := store_Made.calls true H2r.out
      rw [HM1.out] at hmt
      refine hmt.mono ?_
      clear hmt
      rintro e w9 ⟨rfl, hb9⟩
      refine ⟨_, rfl, ?_⟩
      have HB9 := Aside0.mk (below_step HB2.out hb9); have H9 := Aside0.mk (H2r.out.below hb9); have HU9 := Aside0.mk (SV.below HU2r.out hb9)
      refine hK.out _ _ ((blkB hHeld hb9)) (fun hHeld => ?_)
      clear hK K
      refine norm_ (a' := ?_) ?_ ?_
      rotate_left
      ·show Act.put _ (some 244) _ = _
       simp only [Act.put, List.setIfInBounds_toArray, List.set_cons_zero, List.set_cons_succ, i64_w, i32_w]
       rfl
      refine pure_ (i := 12) (N := some 246) (v := ?_) (a' := ?_) (tf 13 13) rfl rfl (any_of HT_.out (by kernel_rfl)) (fun _ _ _ h => h) (Or.inl ⟨by rfl, ?_⟩) ?_ ?_
      rotate_left
      ·intro w'
       go_simp
       with_reducible rfl
      rotate_left
      ·simp only [Act.put, List.setIfInBounds_toArray, List.set_cons_zero, List.set_cons_succ, i64_w, i32_w]
       rfl
      refine pure_ (i := 13) (N := some 247) (v := ?_) (a' := ?_) (tf 14 12) rfl rfl (any_of HT_.out (by kernel_rfl)) (fun _ _ _ h => h) (Or.inl ⟨by rfl, ?_⟩) ?_ ?_
      rotate_left
      ·intro w'
       go_simp
       with_reducible rfl
      rotate_left
      ·simp only [Act.put, List.setIfInBounds_toArray, List.set_cons_zero, List.set_cons_succ, i64_w, i32_w]
       rfl
      refine pure_ (i := 14) (N := some 248) (v := ?_) (a' := ?_) (tf 15 11) rfl rfl (any_of HT_.out (by kernel_rfl)) (fun _ _ _ h => h) (Or.inl ⟨by rfl, ?_⟩) ?_ ?_
      rotate_left
      ·intro w'
       go_simp
       with_reducible rfl
      rotate_left
      ·simp only [Act.put, List.setIfInBounds_toArray, List.set_cons_zero, List.set_cons_succ, i64_w, i32_w]
       rfl
      refine pure_ (i := 15) (N := some 249) (v := ?_) (a' := ?_) (tf 16 10) rfl rfl (any_of HT_.out (by kernel_rfl)) (fun _ _ _ h => h) (Or.inl ⟨by rfl, ?_⟩) ?_ ?_
      rotate_left
      ·intro w'
       go_simp
       with_reducible rfl
      rotate_left
      ·simp only [Act.put, List.setIfInBounds_toArray, List.set_cons_zero, List.set_cons_succ, i64_w, i32_w]
       rfl
      refine pure_ (i := 17) (N := some 251) (v := ?_) (a' := ?_) #[true, true, true, true, true, true, true, true, true, true, true, true, true, true, true, true, false, true, false, false, false, false, false, false, false, false] rfl rfl (any_of HT_.out (by kernel_rfl)) (fun _ _ _ h => h) (Or.inl ⟨by rfl, ?_⟩) ?_ ?_
      rotate_left
      ·intro w'
       go_simp
       with_reducible rfl
      rotate_left
      ·simp only [Act.put, List.setIfInBounds_toArray, List.set_cons_zero, List.set_cons_succ, i64_w, i32_w]
       rfl
      refine pure_ (i := 18) (N := some 252) (v := ?_) (a' := ?_) #[true, true, true, true, true, true, true, true, true, true, true, true, true, true, true, true, false, true, true, false, false, false, false, false, false, false] rfl rfl (any_of HT_.out (by kernel_rfl)) (fun _ _ _ h => h) (Or.inl ⟨by rfl, ?_⟩) ?_ ?_
      rotate_left
      ·intro w'
       go_simp
       with_reducible rfl
      rotate_left
      ·simp only [Act.put, List.setIfInBounds_toArray, List.set_cons_zero, List.set_cons_succ, i64_w, i32_w]
       rfl
      refine pure_ (i := 19) (N := some 253) (v := ?_) (a' := ?_) #[true, true, true, true, true, true, true, true, true, true, true, true, true, true, true, true, false, true, true, true, false, false, false, false, false, false] rfl rfl (any_of HT_.out (by kernel_rfl)) (fun _ _ _ h => h) (Or.inl ⟨by rfl, ?_⟩) ?_ ?_
      rotate_left
      ·intro w'
       go_simp
       with_reducible rfl
      rotate_left
      ·simp only [Act.put, List.setIfInBounds_toArray, List.set_cons_zero, List.set_cons_succ, i64_w, i32_w]
       rfl
      refine pure_ (i := 22) (N := some 256) (v := ?_) (a' := ?_) #[true, true, true, true, true, true, true, true, true, true, true, true, true, true, true, true, false, true, true, true, false, false, true, false, false, false] rfl rfl (any_of HT_.out (by kernel_rfl)) (fun _ _ _ h => h) (Or.inl ⟨by rfl, ?_⟩) ?_ ?_
      rotate_left
      ·intro w'
       go_simp
       with_reducible rfl
      rotate_left
      ·simp only [Act.put, List.setIfInBounds_toArray, List.set_cons_zero, List.set_cons_succ, i64_w, i32_w]
       rfl
      refine take_ (i := 20) (N := some 254) (v := ?_) (a' := ?_) #[true, true, true, true, true, true, true, true, true, true, true, true, true, true, true, true, false, true, true, true, true, false, true, false, false, false] rfl rfl (take_ofW HT_.out HW_.out (by kernel_rfl)) (fun _ _ _ h => h) (Or.inl ⟨by rfl, ?_⟩) hHeld ?_ ?_
      rotate_left
      ·intro w' s0
       obtain ⟨z0, z1, z2, -, -, -⟩ := bk3 s0
       go_simp
       with_reducible rfl
      rotate_left
      ·simp only [Act.put, List.setIfInBounds_toArray, List.set_cons_zero, List.set_cons_succ, i64_w, i32_w]
       rfl
      refine pure_ (i := 21) (N := some 255) (v := ?_) (a' := ?_) #[true, true, true, true, true, true, true, true, true, true, true, true, true, true, true, true, false, true, true, true, true, true, true, false, false, false] rfl rfl (any_of HT_.out (by kernel_rfl)) (fun _ _ _ h => h) (Or.inl ⟨by rfl, ?_⟩) ?_ ?_
      rotate_left
      ·intro w'
       go_simp
       with_reducible rfl
      rotate_left
      ·simp only [Act.put, List.setIfInBounds_toArray, List.set_cons_zero, List.set_cons_succ, i64_w, i32_w]
       rfl
      refine pure_ (i := 23) (N := some 257) (v := ?_) (a' := ?_) #[true, true, true, true, true, true, true, true, true, true, true, true, true, true, true, true, false, true, true, true, true, true, true, true, false, false] rfl rfl (any_of HT_.out (by kernel_rfl)) (fun _ _ _ h => h) (Or.inl ⟨by rfl, ?_⟩) ?_ ?_
      rotate_left
      ·intro w'
       go_simp
       with_reducible rfl
      rotate_left
      ·simp only [Act.put, List.setIfInBounds_toArray, List.set_cons_zero, List.set_cons_succ, i64_w, i32_w]
       rfl
      refine one_ (i := 16) (N := some 250) (tf 24 2) rfl rfl (one_of HT_.out (by kernel_rfl)) (by decide) (fun K hK => ?_)
      refine goes_ Try.func57 (by kernel_rfl) rfl #[ptr g, .bool false] (by rfl) rfl rfl (by simp only [List.map_toArray, List.map_cons, List.map_nil]; rfl) ?_
      have hmt := store_Made.calls false H9.out
      rw [HM2.out] at hmt
      refine hmt.mono ?_
      clear hmt
      rintro e w10 ⟨rfl, hb10⟩
      refine ⟨_, rfl, ?_⟩
      have HBf := Aside0.mk (below_step HB9.out hb10); have Hf := Aside0.mk (H9.out.below hb10); have HUf := Aside0.mk (SV.below HU9.out hb10)
      refine hK.out _ _ ((blkB hHeld hb10)) (fun hHeld => ?_)
      clear hK K
      refine norm_ (a' := ?_) ?_ ?_
      rotate_left
      ·show Act.put _ (some 250) _ = _
       simp only [Act.put, List.setIfInBounds_toArray, List.set_cons_zero, List.set_cons_succ, i64_w, i32_w]
       rfl
      refine pure_ (i := 24) (N := some 258) (v := ?_) (a' := ?_) (tf 25 1) rfl rfl (any_of HT_.out (by kernel_rfl)) (fun _ _ _ h => h) (Or.inl ⟨by rfl, ?_⟩) ?_ ?_
      rotate_left
      ·intro w'
       go_simp
       with_reducible rfl
      rotate_left
      ·simp only [Act.put, List.setIfInBounds_toArray, List.set_cons_zero, List.set_cons_succ, i64_w, i32_w]
       rfl
      refine pure_ (i := 25) (N := some 259) (v := ?_) (a' := ?_) (tf 26 0) rfl rfl (any_of HT_.out (by kernel_rfl)) (fun _ _ _ h => h) (Or.inl ⟨by rfl, ?_⟩) ?_ ?_
      rotate_left
      ·intro w'
       go_simp
       with_reducible rfl
      rotate_left
      ·simp only [Act.put, List.setIfInBounds_toArray, List.set_cons_zero, List.set_cons_succ, i64_w, i32_w]
       rfl
      refine done_ (done_of HT_.out (by kernel_rfl)) ?_
      clear n1 n2 n3 n5 hwn HM1 HM2
      go_wp2
      go_roundw
      case rel => exact ⟨i + 1, fr, Lz, Fz, _, _, rfl, by go_num, by omega, HFz, HLz, HBf, Hf, HUf, HA7⟩
      case measure => simp [intOf]; omega
    ·by_cases h34 : kd = 3 ∨ kd = 4
     ·rcases h34 with rfl | rfl
      all_goals as_aux_lemma =>
       obtain ⟨y0, y1, y2, y3, y4, y5, -⟩ := bk6 HXB.out
       go_wp2_with fail
       refine (store_Make.calls x.f2 x.f1 H2.out (by have := HL.out.1; omega) HS2.out).mono ?_
       rintro e w6 ⟨rfl, hp6, hk6, hb6⟩
       have H6 := Aside0.mk hp6; have HU6 := Aside0.mk (SW.beside HU2.out hk6 HA.out); have HA6 := Aside0.mk (apart_l (w := wa) HA.out); have HB6 := Aside0.mk (HB2.out.trans (hb6.mono HW.out)); have HX6 := Aside0.mk (blk_kept HXB.out hk6 HNT.out)
       have HNU6 : Aside0 (¬ (U nb ∧ nb < wa.heap.size)) := ⟨fun h_ => HNU.out h_.1⟩
       clear y0 y1 y2 y3 y4 y5 hp6 hk6 hb6 H2 HU2 HA HB2 HXB HNT HNU
       obtain ⟨y0, y1, y2, y3, y4, y5, -⟩ := bk6 HX6.out
       go_wp2_with fail
       refine (ref12_Make.calls x.f2 x.f1 HU6.out (by have := HL.out.1; omega) HS2.out).mono ?_
       rintro e w7 ⟨rfl, hp7, hk7, hb7⟩
       have HU7 := Aside0.mk hp7; have H7 := Aside0.mk (H6.out.beside hk7 (fun k hu ht => HA6.out k ht hu)); have HA7 := Aside0.mk (apart_r (w := w6) HA6.out); have HB7 := Aside0.mk (HB6.out.trans (hb7.mono HUW.out)); have HX7 := Aside0.mk (blk_kept HX6.out hk7 HNU6.out)
       clear y0 y1 y2 y3 y4 y5 hp7 hk7 hb7 H6 HU6 HA6 HB6 HX6 HNU6
       have hfm := frN_mk l0 L F x.f2 x.f1
       rw [← HFR.out] at hfm
       obtain ⟨ee, hee⟩ : ∃ ee, ee = mkSE l0 L F x.f2 x.f1 := ⟨_, rfl⟩
       obtain ⟨ne, hne⟩ : ∃ ne, ne = mkSN l0 L F x.f2 x.f1 := ⟨_, rfl⟩
       rw [← hee] at hfm
       rw [← hee, ← hne]
       have hfr0 := frN_0 L
       rw [← HFR.out] at hfr0
       have n4 : (ne != ne) = false := bne_self_eq_false _
       have n6 : (ee != ee) = false := bne_self_eq_false _
       clear hee hne
       by_cases he0 : ee = 0
       ·subst he0
        have k0 : ((0 : Int) == 0) = true := rfl
        by_cases hf1 : x.f1 = 0
        ·have kf : (x.f1 != 0) = false := by rw [hf1]; rfl
         rw [if_neg (fun h_ => h_.2 hf1)] at hfm
         have HFM := Aside0.mk hfm
         clear hfm hf1
         obtain ⟨Lz, hLz⟩ : ∃ Lz, Lz = mkSL l0 L F x.f2 x.f1 := ⟨_, rfl⟩
         obtain ⟨Fz, hFz⟩ : ∃ Fz, Fz = F := ⟨_, rfl⟩
         have HLz : Aside0 (Lz.length ≤ i + 1 ∧ Fz.length ≤ i + 1 ∧ OkT l0 Lz ∧ FB Lz Fz) := ⟨by rw [hLz, hFz]; exact ⟨by have := mkSL_len (S := l0) L F x.f2 x.f1; have := HL.out.1; omega, by have := HL.out.2.1; omega, okT_mk HL.out.2.2.1 x.f2 x.f1, fb_mk HL.out.2.2.2 x.f2 x.f1⟩⟩
         have HFz : Aside0 (fr = frN Lz) := ⟨by rw [hLz]; exact HFM.out.symm⟩
         rw [← hLz, ← hFz] at H7 HU7
         clear hLz hFz HL
         obtain ⟨y0, y1, y2, y3, y4, y5, -⟩ := bk6 HX7.out
         go_wp2_with fail
         refine (store_Get.calls x.f3 x.f4 H7.out).mono ?_
         rintro e wA ⟨rfl, hbA⟩
         have HBA := Aside0.mk (below_step HB7.out hbA); have HTA := Aside0.mk (H7.out.below hbA); have HUA := Aside0.mk (SV.below HU7.out hbA); have HXA := Aside0.mk (blk_below HX7.out hbA)
         clear y0 y1 y2 y3 y4 y5 hbA HB7 H7 HU7 HX7
         obtain ⟨y0, y1, y2, y3, y4, y5, -⟩ := bk6 HXA.out
         go_wp2_with fail
         refine (ref12_Get.calls x.f3 x.f4 HUA.out).mono ?_
         rintro e wC ⟨rfl, hbC⟩
         have HBC := Aside0.mk (below_step HBA.out hbC); have HTC := Aside0.mk (HTA.out.below hbC); have HUC := Aside0.mk (SV.below HUA.out hbC)
         clear y0 y1 y2 y3 y4 y5 hbC HBA HTA HUA HXA
         have n1 : (getS Lz Fz x.f3 x.f4 != getS Lz Fz x.f3 x.f4) = false := bne_self_eq_false _
         have n2 : (chkS Lz Fz x.f3 x.f4 != chkS Lz Fz x.f3 x.f4) = false := bne_self_eq_false _
         have n3 : (fr != fr) = false := bne_self_eq_false _
         have HM1 : Aside0 (madeS Lz true = fr) := ⟨HFz.out.symm⟩
         obtain ⟨nf, hnf⟩ : ∃ nf, nf = madeS Lz false := ⟨_, rfl⟩
         have HM2 : Aside0 (madeS Lz false = nf) := ⟨hnf.symm⟩
         have n5 : (nf != nf) = false := bne_self_eq_false _
         have hwn : IntKind.i64.wrap ((Lz.length : Int) - fr) = nf := by
          have h1 := frN_0 Lz
          have h2 := HLz.out.1
          have h3 : nf = (Lz.length : Int) - frN Lz := hnf
          rw [HFz.out, IntKind.wrap_i64, h3]
          omega
         clear hnf
         obtain ⟨svU, lvU, fvU, sokU, lokU, fokU, hsu, -⟩ := HUC.out
         obtain ⟨Al, cl, el, -, hml⟩ := hsu.list
         rw [L4_len] at el hml
         subst el
         have HSU := Aside0.mk hsu
         clear hsu
         go_upto_region 39 with (fail)
         have HB2 := Aside0.mk (below_drew1 HBC.out)
         have H2r := Aside0.mk (HTC.out.below (below_drew1 (Below.refl _ _)))
         have HU2r := Aside0.mk (SV.below HUC.out (below_drew1 (Below.refl _ _)))
         have HSU2 := Aside0.mk (HSU.out.below (below_drew1 (Below.refl _ _)))
         clear HBC HTC HUC HSU
         refine start_ (n := 26) (S := fun w' => w'.heap[u]? = some (.cells #[svU, .slice Al Lz.length cl, fvU] 92 (0, 0))) (ds := []) (tf 0 26) (by kernel_rfl) rfl rfl (HSU2.out.blk) (fun hHeld => ?_)
         refine with_tabW truantlaw12_StoreExact.tab39 truantlaw12_StoreExact.bits39 (fun HT_ HW_ => ?_)
         generalize wC.drew = w3a at HB2 H2r HU2r HSU2 hHeld ⊢
         refine pure_ (i := 0) (N := some 234) (v := ?_) (a' := ?_) (tf 1 25) rfl rfl (any_of HT_.out (by kernel_rfl)) (fun _ _ _ h => h) (Or.inl ⟨by rfl, ?_⟩) ?_ ?_
         rotate_left
         ·intro w'
          go_simp
          with_reducible rfl
         rotate_left
         ·simp only [Act.put, List.setIfInBounds_toArray, List.set_cons_zero, List.set_cons_succ, i64_w, i32_w]
          rfl
         refine pure_ (i := 1) (N := some 235) (v := ?_) (a' := ?_) (tf 2 24) rfl rfl (any_of HT_.out (by kernel_rfl)) (fun _ _ _ h => h) (Or.inl ⟨by rfl, ?_⟩) ?_ ?_
         rotate_left
         ·intro w'
          go_simp
          with_reducible rfl
         rotate_left
         ·simp only [Act.put, List.setIfInBounds_toArray, List.set_cons_zero, List.set_cons_succ, i64_w, i32_w]
          rfl
         refine pure_ (i := 2) (N := some 236) (v := ?_) (a' := ?_) (tf 3 23) rfl rfl (any_of HT_.out (by kernel_rfl)) (fun _ _ _ h => h) (Or.inl ⟨by rfl, ?_⟩) ?_ ?_
         rotate_left
         ·intro w'
          go_simp
          with_reducible rfl
         rotate_left
         ·simp only [Act.put, List.setIfInBounds_toArray, List.set_cons_zero, List.set_cons_succ, i64_w, i32_w]
          rfl
         refine pure_ (i := 3) (N := some 237) (v := ?_) (a' := ?_) (tf 4 22) rfl rfl (any_of HT_.out (by kernel_rfl)) (fun _ _ _ h => h) (Or.inl ⟨by rfl, ?_⟩) ?_ ?_
         rotate_left
         ·intro w'
          go_simp
          with_reducible rfl
         rotate_left
         ·simp only [Act.put, List.setIfInBounds_toArray, List.set_cons_zero, List.set_cons_succ, i64_w, i32_w]
          rfl
         refine pure_ (i := 4) (N := some 238) (v := ?_) (a' := ?_) (tf 5 21) rfl rfl (any_of HT_.out (by kernel_rfl)) (fun _ _ _ h => h) (Or.inl ⟨by rfl, ?_⟩) ?_ ?_
         rotate_left
         ·intro w'
          go_simp
          with_reducible rfl
         rotate_left
         ·simp only [Act.put, List.setIfInBounds_toArray, List.set_cons_zero, List.set_cons_succ, i64_w, i32_w]
          rfl
         refine pure_ (i := 5) (N := some 239) (v := ?_) (a' := ?_) (tf 6 20) rfl rfl (any_of HT_.out (by kernel_rfl)) (fun _ _ _ h => h) (Or.inl ⟨by rfl, ?_⟩) ?_ ?_
         rotate_left
         ·intro w'
          go_simp
          with_reducible rfl
         rotate_left
         ·simp only [Act.put, List.setIfInBounds_toArray, List.set_cons_zero, List.set_cons_succ, i64_w, i32_w]
          rfl
         refine pure_ (i := 6) (N := some 240) (v := ?_) (a' := ?_) (tf 7 19) rfl rfl (any_of HT_.out (by kernel_rfl)) (fun _ _ _ h => h) (Or.inl ⟨by rfl, ?_⟩) ?_ ?_
         rotate_left
         ·intro w'
          go_simp
          with_reducible rfl
         rotate_left
         ·simp only [Act.put, List.setIfInBounds_toArray, List.set_cons_zero, List.set_cons_succ, i64_w, i32_w]
          rfl
         refine pure_ (i := 7) (N := some 241) (v := ?_) (a' := ?_) (tf 8 18) rfl rfl (any_of HT_.out (by kernel_rfl)) (fun _ _ _ h => h) (Or.inl ⟨by rfl, ?_⟩) ?_ ?_
         rotate_left
         ·intro w'
          go_simp
          with_reducible rfl
         rotate_left
         ·simp only [Act.put, List.setIfInBounds_toArray, List.set_cons_zero, List.set_cons_succ, i64_w, i32_w]
          rfl
         refine pure_ (i := 8) (N := some 242) (v := ?_) (a' := ?_) (tf 9 17) rfl rfl (any_of HT_.out (by kernel_rfl)) (fun _ _ _ h => h) (Or.inl ⟨by rfl, ?_⟩) ?_ ?_
         rotate_left
         ·intro w'
          go_simp
          with_reducible rfl
         rotate_left
         ·simp only [Act.put, List.setIfInBounds_toArray, List.set_cons_zero, List.set_cons_succ, i64_w, i32_w]
          rfl
         refine pure_ (i := 9) (N := some 243) (v := ?_) (a' := ?_) (tf 10 16) rfl rfl (any_of HT_.out (by kernel_rfl)) (fun _ _ _ h => h) (Or.inl ⟨by rfl, ?_⟩) ?_ ?_
         rotate_left
         ·intro w'
          go_simp
          with_reducible rfl
         rotate_left
         ·simp only [Act.put, List.setIfInBounds_toArray, List.set_cons_zero, List.set_cons_succ, i64_w, i32_w]
          rfl
         refine pure_ (i := 11) (N := some 245) (v := ?_) (a' := ?_) #[true, true, true, true, true, true, true, true, true, true, false, true, false, false, false, false, false, false, false, false, false, false, false, false, false, false] rfl rfl (any_of HT_.out (by kernel_rfl)) (fun _ _ _ h => h) (Or.inl ⟨by rfl, ?_⟩) ?_ ?_
         rotate_left
         ·intro w'
          go_simp
          with_reducible rfl
         rotate_left
         ·simp only [Act.put, List.setIfInBounds_toArray, List.set_cons_zero, List.set_cons_succ, i64_w, i32_w]
          rfl
         refine one_ (i := 10) (N := some 244) (tf 12 14) rfl rfl (one_of HT_.out (by kernel_rfl)) (by decide) (fun K hK => ?_)
         refine goes_ Try.func57 (by kernel_rfl) rfl #[ptr g, .bool true] (by rfl) rfl rfl (by simp only [List.map_toArray, List.map_cons, List.map_nil]; rfl) ?_
         have hmt := store_Made.calls true H2r.out
         rw [HM1.out] at hmt
         refine hmt.mono ?_
         clear hmt
         rintro e w9 ⟨rfl, hb9⟩
         refine ⟨_, rfl, ?_⟩
         have HB9 := Aside0.mk (below_step HB2.out hb9); have H9 := Aside0.mk (H2r.out.below hb9); have HU9 := Aside0.mk (SV.below HU2r.out hb9)
         refine hK.out _ _ ((blkB hHeld hb9)) (fun hHeld => ?_)
         clear hK K
         refine norm_ (a' := ?_) ?_ ?_
         rotate_left
         ·show Act.put _ (some 244) _ = _
          simp only [Act.put, List.setIfInBounds_toArray, List.set_cons_zero, List.set_cons_succ, i64_w, i32_w]
          rfl
         refine pure_ (i := 12) (N := some 246) (v := ?_) (a' := ?_) (tf 13 13) rfl rfl (any_of HT_.out (by kernel_rfl)) (fun _ _ _ h => h) (Or.inl ⟨by rfl, ?_⟩) ?_ ?_
         rotate_left
         ·intro w'
          go_simp
          with_reducible rfl
         rotate_left
         ·simp only [Act.put, List.setIfInBounds_toArray, List.set_cons_zero, List.set_cons_succ, i64_w, i32_w]
          rfl
         refine pure_ (i := 13) (N := some 247) (v := ?_) (a' := ?_) (tf 14 12) rfl rfl (any_of HT_.out (by kernel_rfl)) (fun _ _ _ h => h) (Or.inl ⟨by rfl, ?_⟩) ?_ ?_
         rotate_left
         ·intro w'
          go_simp
          with_reducible rfl
         rotate_left
         ·simp only [Act.put, List.setIfInBounds_toArray, List.set_cons_zero, List.set_cons_succ, i64_w, i32_w]
          rfl
         refine pure_ (i := 14) (N := some 248) (v := ?_) (a' := ?_) (tf 15 11) rfl rfl (any_of HT_.out (by kernel_rfl)) (fun _ _ _ h => h) (Or.inl ⟨by rfl, ?_⟩) ?_ ?_
         rotate_left
         ·intro w'
          go_simp
          with_reducible rfl
         rotate_left
         ·simp only [Act.put, List.setIfInBounds_toArray, List.set_cons_zero, List.set_cons_succ, i64_w, i32_w]
          rfl
         refine pure_ (i := 15) (N := some 249) (v := ?_) (a' := ?_) (tf 16 10) rfl rfl (any_of HT_.out (by kernel_rfl)) (fun _ _ _ h => h) (Or.inl ⟨by rfl, ?_⟩) ?_ ?_
         rotate_left
         ·intro w'
          go_simp
          with_reducible rfl
         rotate_left
         ·simp only [Act.put, List.setIfInBounds_toArray, List.set_cons_zero, List.set_cons_succ, i64_w, i32_w]
          rfl
         refine pure_ (i := 17) (N := some 251) (v := ?_) (a' := ?_) #[true, true, true, true, true, true, true, true, true, true, true, true, true, true, true, true, false, true, false, false, false, false, false, false, false, false] rfl rfl (any_of HT_.out (by kernel_rfl)) (fun _ _ _ h => h) (Or.inl ⟨by rfl, ?_⟩) ?_ ?_
         rotate_left
         ·intro w'
          go_simp
          with_reducible rfl
         rotate_left
         ·simp only [Act.put, List.setIfInBounds_toArray, List.set_cons_zero, List.set_cons_succ, i64_w, i32_w]
          rfl
         refine pure_ (i := 18) (N := some 252) (v := ?_) (a' := ?_) #[true, true, true, true, true, true, true, true, true, true, true, true, true, true, true, true, false, true, true, false, false, false, false, false, false, false] rfl rfl (any_of HT_.out (by kernel_rfl)) (fun _ _ _ h => h) (Or.inl ⟨by rfl, ?_⟩) ?_ ?_
         rotate_left
         ·intro w'
          go_simp
          with_reducible rfl
         rotate_left
         ·simp only [Act.put, List.setIfInBounds_toArray, List.set_cons_zero, List.set_cons_succ, i64_w, i32_w]
          rfl
         refine pure_ (i := 19) (N := some 253) (v := ?_) (a' := ?_) #[true, true, true, true, true, true, true, true, true, true, true, true, true, true, true, true, false, true, true, true, false, false, false, false, false, false] rfl rfl (any_of HT_.out (by kernel_rfl)) (fun _ _ _ h => h) (Or.inl ⟨by rfl, ?_⟩) ?_ ?_
         rotate_left
         ·intro w'
          go_simp
          with_reducible rfl
         rotate_left
         ·simp only [Act.put, List.setIfInBounds_toArray, List.set_cons_zero, List.set_cons_succ, i64_w, i32_w]
          rfl
         refine pure_ (i := 22) (N := some 256) (v := ?_) (a' := ?_) #[true, true, true, true, true, true, true, true, true, true, true, true, true, true, true, true, false, true, true, true, false, false, true, false, false, false] rfl rfl (any_of HT_.out (by kernel_rfl)) (fun _ _ _ h => h) (Or.inl ⟨by rfl, ?_⟩) ?_ ?_
         rotate_left
         ·intro w'
          go_simp
          with_reducible rfl
         rotate_left
         ·simp only [Act.put, List.setIfInBounds_toArray, List.set_cons_zero, List.set_cons_succ, i64_w, i32_w]
          rfl
         refine take_ (i := 20) (N := some 254) (v := ?_) (a' := ?_) #[true, true, true, true, true, true, true, true, true, true, true, true, true, true, true, true, false, true, true, true, true, false, true, false, false, false] rfl rfl (take_ofW HT_.out HW_.out (by kernel_rfl)) (fun _ _ _ h => h) (Or.inl ⟨by rfl, ?_⟩) hHeld ?_ ?_
         rotate_left
         ·intro w' s0
          obtain ⟨z0, z1, z2, -, -, -⟩ := bk3 s0
          go_simp
          with_reducible rfl
         rotate_left
         ·simp only [Act.put, List.setIfInBounds_toArray, List.set_cons_zero, List.set_cons_succ, i64_w, i32_w]
          rfl
         refine pure_ (i := 21) (N := some 255) (v := ?_) (a' := ?_) #[true, true, true, true, true, true, true, true, true, true, true, true, true, true, true, true, false, true, true, true, true, true, true, false, false, false] rfl rfl (any_of HT_.out (by kernel_rfl)) (fun _ _ _ h => h) (Or.inl ⟨by rfl, ?_⟩) ?_ ?_
         rotate_left
         ·intro w'
          go_simp
          with_reducible rfl
         rotate_left
         ·simp only [Act.put, List.setIfInBounds_toArray, List.set_cons_zero, List.set_cons_succ, i64_w, i32_w]
          rfl
         refine pure_ (i := 23) (N := some 257) (v := ?_) (a' := ?_) #[true, true, true, true, true, true, true, true, true, true, true, true, true, true, true, true, false, true, true, true, true, true, true, true, false, false] rfl rfl (any_of HT_.out (by kernel_rfl)) (fun _ _ _ h => h) (Or.inl ⟨by rfl, ?_⟩) ?_ ?_
         rotate_left
         ·intro w'
          go_simp
          with_reducible rfl
         rotate_left
         ·simp only [Act.put, List.setIfInBounds_toArray, List.set_cons_zero, List.set_cons_succ, i64_w, i32_w]
          rfl
         refine one_ (i := 16) (N := some 250) (tf 24 2) rfl rfl (one_of HT_.out (by kernel_rfl)) (by decide) (fun K hK => ?_)
         refine goes_ Try.func57 (by kernel_rfl) rfl #[ptr g, .bool false] (by rfl) rfl rfl (by simp only [List.map_toArray, List.map_cons, List.map_nil]; rfl) ?_
         have hmt := store_Made.calls false H9.out
         rw [HM2.out] at hmt
         refine hmt.mono ?_
         clear hmt
         rintro e w10 ⟨rfl, hb10⟩
         refine ⟨_, rfl, ?_⟩
         have HBf := Aside0.mk (below_step HB9.out hb10); have Hf := Aside0.mk (H9.out.below hb10); have HUf := Aside0.mk (SV.below HU9.out hb10)
         refine hK.out _ _ ((blkB hHeld hb10)) (fun hHeld => ?_)
         clear hK K
         refine norm_ (a' := ?_) ?_ ?_
         rotate_left
         ·show Act.put _ (some 250) _ = _
          simp only [Act.put, List.setIfInBounds_toArray, List.set_cons_zero, List.set_cons_succ, i64_w, i32_w]
          rfl
         refine pure_ (i := 24) (N := some 258) (v := ?_) (a' := ?_) (tf 25 1) rfl rfl (any_of HT_.out (by kernel_rfl)) (fun _ _ _ h => h) (Or.inl ⟨by rfl, ?_⟩) ?_ ?_
         rotate_left
         ·intro w'
          go_simp
          with_reducible rfl
         rotate_left
         ·simp only [Act.put, List.setIfInBounds_toArray, List.set_cons_zero, List.set_cons_succ, i64_w, i32_w]
          rfl
         refine pure_ (i := 25) (N := some 259) (v := ?_) (a' := ?_) (tf 26 0) rfl rfl (any_of HT_.out (by kernel_rfl)) (fun _ _ _ h => h) (Or.inl ⟨by rfl, ?_⟩) ?_ ?_
         rotate_left
         ·intro w'
          go_simp
          with_reducible rfl
         rotate_left
         ·simp only [Act.put, List.setIfInBounds_toArray, List.set_cons_zero, List.set_cons_succ, i64_w, i32_w]
          rfl
         refine done_ (done_of HT_.out (by kernel_rfl)) ?_
         clear n1 n2 n3 n5 hwn HM1 HM2
         go_wp2
         go_roundw
         case rel => exact ⟨i + 1, fr, Lz, Fz, _, _, rfl, by go_num, by omega, HFz, HLz, HBf, Hf, HUf, HA7⟩
         case measure => simp [intOf]; omega
        ·have kf : (x.f1 != 0) = true := bne_iff_ne.mpr hf1
         rw [if_pos ⟨rfl, hf1⟩] at hfm
         have HFM := Aside0.mk hfm
         have hwf : IntKind.i64.wrap (fr + 1) = fr + 1 := by rw [IntKind.wrap_i64]; have := HL.out.1; omega
         clear hfm hf1
         obtain ⟨Lz, hLz⟩ : ∃ Lz, Lz = mkSL l0 L F x.f2 x.f1 := ⟨_, rfl⟩
         obtain ⟨Fz, hFz⟩ : ∃ Fz, Fz = F := ⟨_, rfl⟩
         have HLz : Aside0 (Lz.length ≤ i + 1 ∧ Fz.length ≤ i + 1 ∧ OkT l0 Lz ∧ FB Lz Fz) := ⟨by rw [hLz, hFz]; exact ⟨by have := mkSL_len (S := l0) L F x.f2 x.f1; have := HL.out.1; omega, by have := HL.out.2.1; omega, okT_mk HL.out.2.2.1 x.f2 x.f1, fb_mk HL.out.2.2.2 x.f2 x.f1⟩⟩
         have HFz : Aside0 ((fr + 1) = frN Lz) := ⟨by rw [hLz]; exact HFM.out.symm⟩
         rw [← hLz, ← hFz] at H7 HU7
         clear hLz hFz HL
         obtain ⟨y0, y1, y2, y3, y4, y5, -⟩ := bk6 HX7.out
         go_wp2_with fail
         refine (store_Get.calls x.f3 x.f4 H7.out).mono ?_
         rintro e wA ⟨rfl, hbA⟩
         have HBA := Aside0.mk (below_step HB7.out hbA); have HTA := Aside0.mk (H7.out.below hbA); have HUA := Aside0.mk (SV.below HU7.out hbA); have HXA := Aside0.mk (blk_below HX7.out hbA)
         clear y0 y1 y2 y3 y4 y5 hbA HB7 H7 HU7 HX7
         obtain ⟨y0, y1, y2, y3, y4, y5, -⟩ := bk6 HXA.out
         go_wp2_with fail
         refine (ref12_Get.calls x.f3 x.f4 HUA.out).mono ?_
         rintro e wC ⟨rfl, hbC⟩
         have HBC := Aside0.mk (below_step HBA.out hbC); have HTC := Aside0.mk (HTA.out.below hbC); have HUC := Aside0.mk (SV.below HUA.out hbC)
         clear y0 y1 y2 y3 y4 y5 hbC HBA HTA HUA HXA
         have n1 : (getS Lz Fz x.f3 x.f4 != getS Lz Fz x.f3 x.f4) = false := bne_self_eq_false _
         have n2 : (chkS Lz Fz x.f3 x.f4 != chkS Lz Fz x.f3 x.f4) = false := bne_self_eq_false _
         have n3 : ((fr + 1) != (fr + 1)) = false := bne_self_eq_false _
         have HM1 : Aside0 (madeS Lz true = (fr + 1)) := ⟨HFz.out.symm⟩
         obtain ⟨nf, hnf⟩ : ∃ nf, nf = madeS Lz false := ⟨_, rfl⟩
         have HM2 : Aside0 (madeS Lz false = nf) := ⟨hnf.symm⟩
         have n5 : (nf != nf) = false := bne_self_eq_false _
         have hwn : IntKind.i64.wrap ((Lz.length : Int) - (fr + 1)) = nf := by
          have h1 := frN_0 Lz
          have h2 := HLz.out.1
          have h3 : nf = (Lz.length : Int) - frN Lz := hnf
          rw [HFz.out, IntKind.wrap_i64, h3]
          omega
         clear hnf
         obtain ⟨svU, lvU, fvU, sokU, lokU, fokU, hsu, -⟩ := HUC.out
         obtain ⟨Al, cl, el, -, hml⟩ := hsu.list
         rw [L4_len] at el hml
         subst el
         have HSU := Aside0.mk hsu
         clear hsu
         go_upto_region 39 with (fail)
         have HB2 := Aside0.mk (below_drew1 HBC.out)
         have H2r := Aside0.mk (HTC.out.below (below_drew1 (Below.refl _ _)))
         have HU2r := Aside0.mk (SV.below HUC.out (below_drew1 (Below.refl _ _)))
         have HSU2 := Aside0.mk (HSU.out.below (below_drew1 (Below.refl _ _)))
         clear HBC HTC HUC HSU
         refine start_ (n := 26) (S := fun w' => w'.heap[u]? = some (.cells #[svU, .slice Al Lz.length cl, fvU] 92 (0, 0))) (ds := []) (tf 0 26) (by kernel_rfl) rfl rfl (HSU2.out.blk) (fun hHeld => ?_)
         refine with_tabW truantlaw12_StoreExact.tab39 truantlaw12_StoreExact.bits39 (fun HT_ HW_ => ?_)
         generalize wC.drew = w3a at HB2 H2r HU2r HSU2 hHeld ⊢
         refine pure_ (i := 0) (N := some 234) (v := ?_) (a' := ?_) (tf 1 25) rfl rfl (any_of HT_.out (by kernel_rfl)) (fun _ _ _ h => h) (Or.inl ⟨by rfl, ?_⟩) ?_ ?_
         rotate_left
         ·intro w'
          go_simp
          with_reducible rfl
         rotate_left
         ·simp only [Act.put, List.setIfInBounds_toArray, List.set_cons_zero, List.set_cons_succ, i64_w, i32_w]
          rfl
         refine pure_ (i := 1) (N := some 235) (v := ?_) (a' := ?_) (tf 2 24) rfl rfl (any_of HT_.out (by kernel_rfl)) (fun _ _ _ h => h) (Or.inl ⟨by rfl, ?_⟩) ?_ ?_
         rotate_left
         ·intro w'
          go_simp
          with_reducible rfl
         rotate_left
         ·simp only [Act.put, List.setIfInBounds_toArray, List.set_cons_zero, List.set_cons_succ, i64_w, i32_w]
          rfl
         refine pure_ (i := 2) (N := some 236) (v := ?_) (a' := ?_) (tf 3 23) rfl rfl (any_of HT_.out (by kernel_rfl)) (fun _ _ _ h => h) (Or.inl ⟨by rfl, ?_⟩) ?_ ?_
         rotate_left
         ·intro w'
          go_simp
          with_reducible rfl
         rotate_left
         ·simp only [Act.put, List.setIfInBounds_toArray, List.set_cons_zero, List.set_cons_succ, i64_w, i32_w]
          rfl
         refine pure_ (i := 3) (N := some 237) (v := ?_) (a' := ?_) (tf 4 22) rfl rfl (any_of HT_.out (by kernel_rfl)) (fun _ _ _ h => h) (Or.inl ⟨by rfl, ?_⟩) ?_ ?_
         rotate_left
         ·intro w'
          go_simp
          with_reducible rfl
         rotate_left
         ·simp only [Act.put, List.setIfInBounds_toArray, List.set_cons_zero, List.set_cons_succ, i64_w, i32_w]
          rfl
         refine pure_ (i := 4) (N := some 238) (v := ?_) (a' := ?_) (tf 5 21) rfl rfl (any_of HT_.out (by kernel_rfl)) (fun _ _ _ h => h) (Or.inl ⟨by rfl, ?_⟩) ?_ ?_
         rotate_left
         ·intro w'
          go_simp
          with_reducible rfl
         rotate_left
         ·simp only [Act.put, List.setIfInBounds_toArray, List.set_cons_zero, List.set_cons_succ, i64_w, i32_w]
          rfl
         refine pure_ (i := 5) (N := some 239) (v := ?_) (a' := ?_) (tf 6 20) rfl rfl (any_of HT_.out (by kernel_rfl)) (fun _ _ _ h => h) (Or.inl ⟨by rfl, ?_⟩) ?_ ?_
         rotate_left
         ·intro w'
          go_simp
          with_reducible rfl
         rotate_left
         ·simp only [Act.put, List.setIfInBounds_toArray, List.set_cons_zero, List.set_cons_succ, i64_w, i32_w]
          rfl
         refine pure_ (i := 6) (N := some 240) (v := ?_) (a' := ?_) (tf 7 19) rfl rfl (any_of HT_.out (by kernel_rfl)) (fun _ _ _ h => h) (Or.inl ⟨by rfl, ?_⟩) ?_ ?_
         rotate_left
         ·intro w'
          go_simp
          with_reducible rfl
         rotate_left
         ·simp only [Act.put, List.setIfInBounds_toArray, List.set_cons_zero, List.set_cons_succ, i64_w, i32_w]
          rfl
         refine pure_ (i := 7) (N := some 241) (v := ?_) (a' := ?_) (tf 8 18) rfl rfl (any_of HT_.out (by kernel_rfl)) (fun _ _ _ h => h) (Or.inl ⟨by rfl, ?_⟩) ?_ ?_
         rotate_left
         ·intro w'
          go_simp
          with_reducible rfl
         rotate_left
         ·simp only [Act.put, List.setIfInBounds_toArray, List.set_cons_zero, List.set_cons_succ, i64_w, i32_w]
          rfl
         refine pure_ (i := 8) (N := some 242) (v := ?_) (a' := ?_) (tf 9 17) rfl rfl (any_of HT_.out (by kernel_rfl)) (fun _ _ _ h => h) (Or.inl ⟨by rfl, ?_⟩) ?_ ?_
         rotate_left
         ·intro w'
          go_simp
          with_reducible rfl
         rotate_left
         ·simp only [Act.put, List.setIfInBounds_toArray, List.set_cons_zero, List.set_cons_succ, i64_w, i32_w]
          rfl
         refine pure_ (i := 9) (N := some 243) (v := ?_) (a' := ?_) (tf 10 16) rfl rfl (any_of HT_.out (by kernel_rfl)) (fun _ _ _ h => h) (Or.inl ⟨by rfl, ?_⟩) ?_ ?_
         rotate_left
         ·intro w'
          go_simp
          with_reducible rfl
         rotate_left
         ·simp only [Act.put, List.setIfInBounds_toArray, List.set_cons_zero, List.set_cons_succ, i64_w, i32_w]
          rfl
         refine pure_ (i := 11) (N := some 245) (v := ?_) (a' := ?_) #[true, true, true, true, true, true, true, true, true, true, false, true, false, false, false, false, false, false, false, false, false, false, false, false, false, false] rfl rfl (any_of HT_.out (by kernel_rfl)) (fun _ _ _ h => h) (Or.inl ⟨by rfl, ?_⟩) ?_ ?_
         rotate_left
         ·intro w'
          go_simp
          with_reducible rfl
         rotate_left
         ·simp only [Act.put, List.setIfInBounds_toArray, List.set_cons_zero, List.set_cons_succ, i64_w, i32_w]
          rfl
         refine one_ (i := 10) (N := some 244) (tf 12 14) rfl rfl (one_of HT_.out (by kernel_rfl)) (by decide) (fun K hK => ?_)
         refine goes_ Try.func57 (by kernel_rfl) rfl #[ptr g, .bool true] (by rfl) rfl rfl (by simp only [List.map_toArray, List.map_cons, List.map_nil]; rfl) ?_
         have hmt := store_Made.calls true H2r.out
         rw [HM1.out] at hmt
         refine hmt.mono ?_
         clear hmt
         rintro e w9 ⟨rfl, hb9⟩
         refine ⟨_, rfl, ?_⟩
         have HB9 := Aside0.mk (below_step HB2.out hb9); have H9 := Aside0.mk (H2r.out.below hb9); have HU9 := Aside0.mk (SV.below HU2r.out hb9)
         refine hK.out _ _ ((blkB hHeld hb9)) (fun hHeld => ?_)
         clear hK K
         refine norm_ (a' := ?_) ?_ ?_
         rotate_left
         ·show Act.put _ (some 244) _ = _
          simp only [Act.put, List.setIfInBounds_toArray, List.set_cons_zero, List.set_cons_succ, i64_w, i32_w]
          rfl
         refine pure_ (i := 12) (N := some 246) (v := ?_) (a' := ?_) (tf 13 13) rfl rfl (any_of HT_.out (by kernel_rfl)) (fun _ _ _ h => h) (Or.inl ⟨by rfl, ?_⟩) ?_ ?_
         rotate_left
         ·intro w'
          go_simp
          with_reducible rfl
         rotate_left
         ·simp only [Act.put, List.setIfInBounds_toArray, List.set_cons_zero, List.set_cons_succ, i64_w, i32_w]
          rfl
         refine pure_ (i := 13) (N := some 247) (v := ?_) (a' := ?_) (tf 14 12) rfl rfl (any_of HT_.out (by kernel_rfl)) (fun _ _ _ h => h) (Or.inl ⟨by rfl, ?_⟩) ?_ ?_
         rotate_left
         ·intro w'
          go_simp
          with_reducible rfl
         rotate_left
         ·simp only [Act.put, List.setIfInBounds_toArray, List.set_cons_zero, List.set_cons_succ, i64_w, i32_w]
          rfl
         refine pure_ (i := 14) (N := some 248) (v := ?_) (a' := ?_) (tf 15 11) rfl rfl (any_of HT_.out (by kernel_rfl)) (fun _ _ _ h => h) (Or.inl ⟨by rfl, ?_⟩) ?_ ?_
         rotate_left
         ·intro w'
          go_simp
          with_reducible rfl
         rotate_left
         ·simp only [Act.put, List.setIfInBounds_toArray, List.set_cons_zero, List.set_cons_succ, i64_w, i32_w]
          rfl
         refine pure_ (i := 15) (N := some 249) (v := ?_) (a' := ?_) (tf 16 10) rfl rfl (any_of HT_.out (by kernel_rfl)) (fun _ _ _ h => h) (Or.inl ⟨by rfl, ?_⟩) ?_ ?_
         rotate_left
         ·intro w'
          go_simp
          with_reducible rfl
         rotate_left
         ·simp only [Act.put, List.setIfInBounds_toArray, List.set_cons_zero, List.set_cons_succ, i64_w, i32_w]
          rfl
         refine pure_ (i := 17) (N := some 251) (v := ?_) (a' := ?_) #[true, true, true, true, true, true, true, true, true, true, true, true, true, true, true, true, false, true, false, false, false, false, false, false, false, false] rfl rfl (any_of HT_.out (by kernel_rfl)) (fun _ _ _ h => h) (Or.inl ⟨by rfl, ?_⟩) ?_ ?_
         rotate_left
         ·intro w'
          go_simp
          with_reducible rfl
         rotate_left
         ·simp only [Act.put, List.setIfInBounds_toArray, List.set_cons_zero, List.set_cons_succ, i64_w, i32_w]
          rfl
         refine pure_ (i := 18) (N := some 252) (v := ?_) (a' := ?_) #[true, true, true, true, true, true, true, true, true, true, true, true, true, true, true, true, false, true, true, false, false, false, false, false, false, false] rfl rfl (any_of HT_.out (by kernel_rfl)) (fun _ _ _ h => h) (Or.inl ⟨by rfl, ?_⟩) ?_ ?_
         rotate_left
         ·intro w'
          go_simp
          with_reducible rfl
         rotate_left
         ·simp only [Act.put, List.setIfInBounds_toArray, List.set_cons_zero, List.set_cons_succ, i64_w, i32_w]
          rfl
         refine pure_ (i := 19) (N := some 253) (v := ?_) (a' := ?_) #[true, true, true, true, true, true, true, true, true, true, true, true, true, true, true, true, false, true, true, true, false, false, false, false, false, false] rfl rfl (any_of HT_.out (by kernel_rfl)) (fun _ _ _ h => h) (Or.inl ⟨by rfl, ?_⟩) ?_ ?_
         rotate_left
         ·intro w'
          go_simp
          with_reducible rfl
         rotate_left
         ·simp only [Act.put, List.setIfInBounds_toArray, List.set_cons_zero, List.set_cons_succ, i64_w, i32_w]
          rfl
         refine pure_ (i := 22) (N := some 256) (v := ?_) (a' := ?_) #[true, true, true, true, true, true, true, true, true, true, true, true, true, true, true, true, false, true, true, true, false, false, true, false, false, false] rfl rfl (any_of HT_.out (by kernel_rfl)) (fun _ _ _ h => h) (Or.inl ⟨by rfl, ?_⟩) ?_ ?_
         rotate_left
         ·intro w'
          go_simp
          with_reducible rfl
         rotate_left
         ·simp only [Act.put, List.setIfInBounds_toArray, List.set_cons_zero, List.set_cons_succ, i64_w, i32_w]
          rfl
         refine take_ (i := 20) (N := some 254) (v := ?_) (a' := ?_) #[true, true, true, true, true, true, true, true, true, true, true, true, true, true, true, true, false, true, true, true, true, false, true, false, false, false] rfl rfl (take_ofW HT_.out HW_.out (by kernel_rfl)) (fun _ _ _ h => h) (Or.inl ⟨by rfl, ?_⟩) hHeld ?_ ?_
         rotate_left
         ·intro w' s0
          obtain ⟨z0, z1, z2, -, -, -⟩ := bk3 s0
          go_simp
          with_reducible rfl
         rotate_left
         ·simp only [Act.put, List.setIfInBounds_toArray, List.set_cons_zero, List.set_cons_succ, i64_w, i32_w]
          rfl
         refine pure_ (i := 21) (N := some 255) (v := ?_) (a' := ?_) #[true, true, true, true, true, true, true, true, true, true, true, true, true, true, true, true, false, true, true, true, true, true, true, false, false, false] rfl rfl (any_of HT_.out (by kernel_rfl)) (fun _ _ _ h => h) (Or.inl ⟨by rfl, ?_⟩) ?_ ?_
         rotate_left
         ·intro w'
          go_simp
          with_reducible rfl
         rotate_left
         ·simp only [Act.put, List.setIfInBounds_toArray, List.set_cons_zero, List.set_cons_succ, i64_w, i32_w]
          rfl
         refine pure_ (i := 23) (N := some 257) (v := ?_) (a' := ?_) #[true, true, true, true, true, true, true, true, true, true, true, true, true, true, true, true, false, true, true, true, true, true, true, true, false, false] rfl rfl (any_of HT_.out (by kernel_rfl)) (fun _ _ _ h => h) (Or.inl ⟨by rfl, ?_⟩) ?_ ?_
         rotate_left
         ·intro w'
          go_simp
          with_reducible rfl
         rotate_left
         ·simp only [Act.put, List.setIfInBounds_toArray, List.set_cons_zero, List.set_cons_succ, i64_w, i32_w]
          rfl
         refine one_ (i := 16) (N := some 250) (tf 24 2) rfl rfl (one_of HT_.out (by kernel_rfl)) (by decide) (fun K hK => ?_)
         refine goes_ Try.func57 (by kernel_rfl) rfl #[ptr g, .bool false] (by rfl) rfl rfl (by simp only [List.map_toArray, List.map_cons, List.map_nil]; rfl) ?_
         have hmt := store_Made.calls false H9.out
         rw [HM2.out] at hmt
         refine hmt.mono ?_
         clear hmt
         rintro e w10 ⟨rfl, hb10⟩
         refine ⟨_, rfl, ?_⟩
         have HBf := Aside0.mk (below_step HB9.out hb10); have Hf := Aside0.mk (H9.out.below hb10); have HUf := Aside0.mk (SV.below HU9.out hb10)
         refine hK.out _ _ ((blkB hHeld hb10)) (fun hHeld => ?_)
         clear hK K
         refine norm_ (a' := ?_) ?_ ?_
         rotate_left
         ·show Act.put _ (some 250) _ = _
          simp only [Act.put, List.setIfInBounds_toArray, List.set_cons_zero, List.set_cons_succ, i64_w, i32_w]
          rfl
         refine pure_ (i := 24) (N := some 258) (v := ?_) (a' := ?_) (tf 25 1) rfl rfl (any_of HT_.out (by kernel_rfl)) (fun _ _ _ h => h) (Or.inl ⟨by rfl, ?_⟩) ?_ ?_
         rotate_left
         ·intro w'
          go_simp
          with_reducible rfl
         rotate_left
         ·simp only [Act.put, List.setIfInBounds_toArray, List.set_cons_zero, List.set_cons_succ, i64_w, i32_w]
          rfl
         refine pure_ (i := 25) (N := some 259) (v := ?_) (a' := ?_) (tf 26 0) rfl rfl (any_of HT_.out (by kernel_rfl)) (fun _ _ _ h => h) (Or.inl ⟨by rfl, ?_⟩) ?_ ?_
         rotate_left
         ·intro w'
          go_simp
          with_reducible rfl
         rotate_left
         ·simp only [Act.put, List.setIfInBounds_toArray, List.set_cons_zero, List.set_cons_succ, i64_w, i32_w]
          rfl
         refine done_ (done_of HT_.out (by kernel_rfl)) ?_
         clear n1 n2 n3 n5 hwn HM1 HM2
         go_wp2
         go_roundw
         case rel => exact ⟨i + 1, (fr + 1), Lz, Fz, _, _, rfl, by go_num, by omega, HFz, HLz, HBf, Hf, HUf, HA7⟩
         case measure => simp [intOf]; omega
       ·have k0 : (ee == 0) = false := beq_eq_false_iff_ne.mpr he0
        rw [if_neg (fun h_ => he0 h_.1)] at hfm
        have HFM := Aside0.mk hfm
        clear hfm he0
        obtain ⟨Lz, hLz⟩ : ∃ Lz, Lz = mkSL l0 L F x.f2 x.f1 := ⟨_, rfl⟩
        obtain ⟨Fz, hFz⟩ : ∃ Fz, Fz = F := ⟨_, rfl⟩
        have HLz : Aside0 (Lz.length ≤ i + 1 ∧ Fz.length ≤ i + 1 ∧ OkT l0 Lz ∧ FB Lz Fz) := ⟨by rw [hLz, hFz]; exact ⟨by have := mkSL_len (S := l0) L F x.f2 x.f1; have := HL.out.1; omega, by have := HL.out.2.1; omega, okT_mk HL.out.2.2.1 x.f2 x.f1, fb_mk HL.out.2.2.2 x.f2 x.f1⟩⟩
        have HFz : Aside0 (fr = frN Lz) := ⟨by rw [hLz]; exact HFM.out.symm⟩
        rw [← hLz, ← hFz] at H7 HU7
        clear hLz hFz HL
        obtain ⟨y0, y1, y2, y3, y4, y5, -⟩ := bk6 HX7.out
        go_wp2_with fail
        refine (store_Get.calls x.f3 x.f4 H7.out).mono ?_
        rintro e wA ⟨rfl, hbA⟩
        have HBA := Aside0.mk (below_step HB7.out hbA); have HTA := Aside0.mk (H7.out.below hbA); have HUA := Aside0.mk (SV.below HU7.out hbA); have HXA := Aside0.mk (blk_below HX7.out hbA)
        clear y0 y1 y2 y3 y4 y5 hbA HB7 H7 HU7 HX7
        obtain ⟨y0, y1, y2, y3, y4, y5, -⟩ := bk6 HXA.out
        go_wp2_with fail
        refine (ref12_Get.calls x.f3 x.f4 HUA.out).mono ?_
        rintro e wC ⟨rfl, hbC⟩
        have HBC := Aside0.mk (below_step HBA.out hbC); have HTC := Aside0.mk (HTA.out.below hbC); have HUC := Aside0.mk (SV.below HUA.out hbC)
        clear y0 y1 y2 y3 y4 y5 hbC HBA HTA HUA HXA
        have n1 : (getS Lz Fz x.f3 x.f4 != getS Lz Fz x.f3 x.f4) = false := bne_self_eq_false _
        have n2 : (chkS Lz Fz x.f3 x.f4 != chkS Lz Fz x.f3 x.f4) = false := bne_self_eq_false _
        have n3 : (fr != fr) = false := bne_self_eq_false _
        have HM1 : Aside0 (madeS Lz true = fr) := ⟨HFz.out.symm⟩
        obtain ⟨nf, hnf⟩ : ∃ nf, nf = madeS Lz false := ⟨_, rfl⟩
        have HM2 : Aside0 (madeS Lz false = nf) := ⟨hnf.symm⟩
        have n5 : (nf != nf) = false := bne_self_eq_false _
        have hwn : IntKind.i64.wrap ((Lz.length : Int) - fr) = nf := by
         have h1 := frN_0 Lz
         have h2 := HLz.out.1
         have h3 : nf = (Lz.length : Int) - frN Lz := hnf
         rw [HFz.out, IntKind.wrap_i64, h3]
         omega
        clear hnf
        obtain ⟨svU, lvU, fvU, sokU, lokU, fokU, hsu, -⟩ := HUC.out
        obtain ⟨Al, cl, el, -, hml⟩ := hsu.list
        rw [L4_len] at el hml
        subst el
        have HSU := Aside0.mk hsu
        clear hsu
        go_upto_region 39 with (fail)
        have HB2 := Aside0.mk (below_drew1 HBC.out)
        have H2r := Aside0.mk (HTC.out.below (below_drew1 (Below.refl _ _)))
        have HU2r := Aside0.mk (SV.below HUC.out (below_drew1 (Below.refl _ _)))
        have HSU2 := Aside0.mk (HSU.out.below (below_drew1 (Below.refl _ _)))
        clear HBC HTC HUC HSU
        refine start_ (n := 26) (S := fun w' => w'.heap[u]? = some (.cells #[svU, .slice Al Lz.length cl, fvU] 92 (0, 0))) (ds := []) (tf 0 26) (by kernel_rfl) rfl rfl (HSU2.out.blk) (fun hHeld => ?_)
        refine with_tabW truantlaw12_StoreExact.tab39 truantlaw12_StoreExact.bits39 (fun HT_ HW_ => ?_)
        generalize wC.drew = w3a at HB2 H2r HU2r HSU2 hHeld ⊢
        refine pure_ (i := 0) (N := some 234) (v := ?_) (a' := ?_) (tf 1 25) rfl rfl (any_of HT_.out (by kernel_rfl)) (fun _ _ _ h => h) (Or.inl ⟨by rfl, ?_⟩) ?_ ?_
        rotate_left
        ·intro w'
         go_simp
         with_reducible rfl
        rotate_left
        ·simp only [Act.put, List.setIfInBounds_toArray, List.set_cons_zero, List.set_cons_succ, i64_w, i32_w]
         rfl
        refine pure_ (i := 1) (N := some 235) (v := ?_) (a' := ?_) (tf 2 24) rfl rfl (any_of HT_.out (by kernel_rfl)) (fun _ _ _ h => h) (Or.inl ⟨by rfl, ?_⟩) ?_ ?_
        rotate_left
        ·intro w'
         go_simp
         with_reducible rfl
        rotate_left
        ·simp only [Act.put, List.setIfInBounds_toArray, List.set_cons_zero, List.set_cons_succ, i64_w, i32_w]
         rfl
        refine pure_ (i := 2) (N := some 236) (v := ?_) (a' := ?_) (tf 3 23) rfl rfl (any_of HT_.out (by kernel_rfl)) (fun _ _ _ h => h) (Or.inl ⟨by rfl, ?_⟩) ?_ ?_
        rotate_left
        ·intro w'
         go_simp
         with_reducible rfl
        rotate_left
        ·simp only [Act.put, List.setIfInBounds_toArray, List.set_cons_zero, List.set_cons_succ, i64_w, i32_w]
         rfl
        refine pure_ (i := 3) (N := some 237) (v := ?_) (a' := ?_) (tf 4 22) rfl rfl (any_of HT_.out (by kernel_rfl)) (fun _ _ _ h => h) (Or.inl ⟨by rfl, ?_⟩) ?_ ?_
        rotate_left
        ·intro w'
         go_simp
         with_reducible rfl
        rotate_left
        ·simp only [Act.put, List.setIfInBounds_toArray, List.set_cons_zero, List.set_cons_succ, i64_w, i32_w]
         rfl
        refine pure_ (i := 4) (N := some 238) (v := ?_) (a' := ?_) (tf 5 21) rfl rfl (any_of HT_.out (by kernel_rfl)) (fun _ _ _ h => h) (Or.inl ⟨by rfl, ?_⟩) ?_ ?_
        rotate_left
        ·intro w'
         go_simp
         with_reducible rfl
        rotate_left
        ·simp only [Act.put, List.setIfInBounds_toArray, List.set_cons_zero, List.set_cons_succ, i64_w, i32_w]
         rfl
        refine pure_ (i := 5) (N := some 239) (v := ?_) (a' := ?_) (tf 6 20) rfl rfl (any_of HT_.out (by kernel_rfl)) (fun _ _ _ h => h) (Or.inl ⟨by rfl, ?_⟩) ?_ ?_
        rotate_left
        ·intro w'
         go_simp
         with_reducible rfl
        rotate_left
        ·simp only [Act.put, List.setIfInBounds_toArray, List.set_cons_zero, List.set_cons_succ, i64_w, i32_w]
         rfl
        refine pure_ (i := 6) (N := some 240) (v := ?_) (a' := ?_) (tf 7 19) rfl rfl (any_of HT_.out (by kernel_rfl)) (fun _ _ _ h => h) (Or.inl ⟨by rfl, ?_⟩) ?_ ?_
        rotate_left
        ·intro w'
         go_simp
         with_reducible rfl
        rotate_left
        ·simp only [Act.put, List.setIfInBounds_toArray, List.set_cons_zero, List.set_cons_succ, i64_w, i32_w]
         rfl
        refine pure_ (i := 7) (N := some 241) (v := ?_) (a' := ?_) (tf 8 18) rfl rfl (any_of HT_.out (by kernel_rfl)) (fun _ _ _ h => h) (Or.inl ⟨by rfl, ?_⟩) ?_ ?_
        rotate_left
        ·intro w'
         go_simp
         with_reducible rfl
        rotate_left
        ·simp only [Act.put, List.setIfInBounds_toArray, List.set_cons_zero, List.set_cons_succ, i64_w, i32_w]
         rfl
        refine pure_ (i := 8) (N := some 242) (v := ?_) (a' := ?_) (tf 9 17) rfl rfl (any_of HT_.out (by kernel_rfl)) (fun _ _ _ h => h) (Or.inl ⟨by rfl, ?_⟩) ?_ ?_
        rotate_left
        ·intro w'
         go_simp
         with_reducible rfl
        rotate_left
        ·simp only [Act.put, List.setIfInBounds_toArray, List.set_cons_zero, List.set_cons_succ, i64_w, i32_w]
         rfl
        refine pure_ (i := 9) (N := some 243) (v := ?_) (a' := ?_) (tf 10 16) rfl rfl (any_of HT_.out (by kernel_rfl)) (fun _ _ _ h => h) (Or.inl ⟨by rfl, ?_⟩) ?_ ?_
        rotate_left
        ·intro w'
         go_simp
         with_reducible rfl
        rotate_left
        ·simp only [Act.put, List.setIfInBounds_toArray, List.set_cons_zero, List.set_cons_succ, i64_w, i32_w]
         rfl
        refine pure_ (i := 11) (N := some 245) (v := ?_) (a' := ?_) #[true, true, true, true, true, true, true, true, true, true, false, true, false, false, false, false, false, false, false, false, false, false, false, false, false, false] rfl rfl (any_of HT_.out (by kernel_rfl)) (fun _ _ _ h => h) (Or.inl ⟨by rfl, ?_⟩) ?_ ?_
        rotate_left
        ·intro w'
         go_simp
         with_reducible rfl
        rotate_left
        ·simp only [Act.put, List.setIfInBounds_toArray, List.set_cons_zero, List.set_cons_succ, i64_w, i32_w]
         rfl
        refine one_ (i := 10) (N := some 244) (tf 12 14) rfl rfl (one_of HT_.out (by kernel_rfl)) (by decide) (fun K hK => ?_)
        refine goes_ Try.func57 (by kernel_rfl) rfl #[ptr g, .bool true] (by rfl) rfl rfl (by simp only [List.map_toArray, List.map_cons, List.map_nil]; rfl) ?_
        have hmt := store_Made.calls true H2r.out
        rw [HM1.out] at hmt
        refine hmt.mono ?_
        clear hmt
        rintro e w9 ⟨rfl, hb9⟩
        refine ⟨_, rfl, ?_⟩
        have HB9 := Aside0.mk (below_step HB2.out hb9); have H9 := Aside0.mk (H2r.out.below hb9); have HU9 := Aside0.mk (SV.below HU2r.out hb9)
        refine hK.out _ _ ((blkB hHeld hb9)) (fun hHeld => ?_)
        clear hK K
        refine norm_ (a' := ?_) ?_ ?_
        rotate_left
        ·show Act.put _ (some 244) _ = _
         simp only [Act.put, List.setIfInBounds_toArray, List.set_cons_zero, List.set_cons_succ, i64_w, i32_w]
         rfl
        refine pure_ (i := 12) (N := some 246) (v := ?_) (a' := ?_) (tf 13 13) rfl rfl (any_of HT_.out (by kernel_rfl)) (fun _ _ _ h => h) (Or.inl ⟨by rfl, ?_⟩) ?_ ?_
        rotate_left
        ·intro w'
         go_simp
         with_reducible rfl
        rotate_left
        ·simp only [Act.put, List.setIfInBounds_toArray, List.set_cons_zero, List.set_cons_succ, i64_w, i32_w]
         rfl
        refine pure_ (i := 13) (N := some 247) (v := ?_) (a' := ?_) (tf 14 12) rfl rfl (any_of HT_.out (by kernel_rfl)) (fun _ _ _ h => h) (Or.inl ⟨by rfl, ?_⟩) ?_ ?_
        rotate_left
        ·intro w'
         go_simp
         with_reducible rfl
        rotate_left
        ·simp only [Act.put, List.setIfInBounds_toArray, List.set_cons_zero, List.set_cons_succ, i64_w, i32_w]
         rfl
        refine pure_ (i := 14) (N := some 248) (v := ?_) (a' := ?_) (tf 15 11) rfl rfl (any_of HT_.out (by kernel_rfl)) (fun _ _ _ h => h) (Or.inl ⟨by rfl, ?_⟩) ?_ ?_
        rotate_left
        ·intro w'
         go_simp
         with_reducible rfl
        rotate_left
        ·simp only [Act.put, List.setIfInBounds_toArray, List.set_cons_zero, List.set_cons_succ, i64_w, i32_w]
         rfl
        refine pure_ (i := 15) (N := some 249) (v := ?_) (a' := ?_) (tf 16 10) rfl rfl (any_of HT_.out (by kernel_rfl)) (fun _ _ _ h => h) (Or.inl ⟨by rfl, ?_⟩) ?_ ?_
        rotate_left
        ·intro w'
         go_simp
         with_reducible rfl
        rotate_left
        ·simp only [Act.put, List.setIfInBounds_toArray, List.set_cons_zero, List.set_cons_succ, i64_w, i32_w]
         rfl
        refine pure_ (i := 17) (N := some 251) (v := ?_) (a' := ?_) #[true, true, true, true, true, true, true, true, true, true, true, true, true, true, true, true, false, true, false, false, false, false, false, false, false, false] rfl rfl (any_of HT_.out (by kernel_rfl)) (fun _ _ _ h => h) (Or.inl ⟨by rfl, ?_⟩) ?_ ?_
        rotate_left
        ·intro w'
         go_simp
         with_reducible rfl
        rotate_left
        ·simp only [Act.put, List.setIfInBounds_toArray, List.set_cons_zero, List.set_cons_succ, i64_w, i32_w]
         rfl
        refine pure_ (i := 18) (N := some 252) (v := ?_) (a' := ?_) #[true, true, true, true, true, true, true, true, true, true, true, true, true, true, true, true, false, true, true, false, false, false, false, false, false, false] rfl rfl (any_of HT_.out (by kernel_rfl)) (fun _ _ _ h => h) (Or.inl ⟨by rfl, ?_⟩) ?_ ?_
        rotate_left
        ·intro w'
         go_simp
         with_reducible rfl
        rotate_left
        ·simp only [Act.put, List.setIfInBounds_toArray, List.set_cons_zero, List.set_cons_succ, i64_w, i32_w]
         rfl
        refine pure_ (i := 19) (N := some 253) (v := ?_) (a' := ?_) #[true, true, true, true, true, true, true, true, true, true, true, true, true, true, true, true, false, true, true, true, false, false, false, false, false, false] rfl rfl (any_of HT_.out (by kernel_rfl)) (fun _ _ _ h => h) (Or.inl ⟨by rfl, ?_⟩) ?_ ?_
        rotate_left
        ·intro w'
         go_simp
         with_reducible rfl
        rotate_left
        ·simp only [Act.put, List.setIfInBounds_toArray, List.set_cons_zero, List.set_cons_succ, i64_w, i32_w]
         rfl
        refine pure_ (i := 22) (N := some 256) (v := ?_) (a' := ?_) #[true, true, true, true, true, true, true, true, true, true, true, true, true, true, true, true, false, true, true, true, false, false, true, false, false, false] rfl rfl (any_of HT_.out (by kernel_rfl)) (fun _ _ _ h => h) (Or.inl ⟨by rfl, ?_⟩) ?_ ?_
        rotate_left
        ·intro w'
         go_simp
         with_reducible rfl
        rotate_left
        ·simp only [Act.put, List.setIfInBounds_toArray, List.set_cons_zero, List.set_cons_succ, i64_w, i32_w]
         rfl
        refine take_ (i := 20) (N := some 254) (v := ?_) (a' := ?_) #[true, true, true, true, true, true, true, true, true, true, true, true, true, true, true, true, false, true, true, true, true, false, true, false, false, false] rfl rfl (take_ofW HT_.out HW_.out (by kernel_rfl)) (fun _ _ _ h => h) (Or.inl ⟨by rfl, ?_⟩) hHeld ?_ ?_
        rotate_left
        ·intro w' s0
         obtain ⟨z0, z1, z2, -, -, -⟩ := bk3 s0
         go_simp
         with_reducible rfl
        rotate_left
        ·simp only [Act.put, List.setIfInBounds_toArray, List.set_cons_zero, List.set_cons_succ, i64_w, i32_w]
         rfl
        refine pure_ (i := 21) (N := some 255) (v := ?_) (a' := ?_) #[true, true, true, true, true, true, true, true, true, true, true, true, true, true, true, true, false, true, true, true, true, true, true, false, false, false] rfl rfl (any_of HT_.out (by kernel_rfl)) (fun _ _ _ h => h) (Or.inl ⟨by rfl, ?_⟩) ?_ ?_
        rotate_left
        ·intro w'
         go_simp
         with_reducible rfl
        rotate_left
        ·simp only [Act.put, List.setIfInBounds_toArray, List.set_cons_zero, List.set_cons_succ, i64_w, i32_w]
         rfl
        refine pure_ (i := 23) (N := some 257) (v := ?_) (a' := ?_) #[true, true, true, true, true, true, true, true, true, true, true, true, true, true, true, true, false, true, true, true, true, true, true, true, false, false] rfl rfl (any_of HT_.out (by kernel_rfl)) (fun _ _ _ h => h) (Or.inl ⟨by rfl, ?_⟩) ?_ ?_
        rotate_left
        ·intro w'
         go_simp
         with_reducible rfl
        rotate_left
        ·simp only [Act.put, List.setIfInBounds_toArray, List.set_cons_zero, List.set_cons_succ, i64_w, i32_w]
         rfl
        refine one_ (i := 16) (N := some 250) (tf 24 2) rfl rfl (one_of HT_.out (by kernel_rfl)) (by decide) (fun K hK => ?_)
        refine goes_ Try.func57 (by kernel_rfl) rfl #[ptr g, .bool false] (by rfl) rfl rfl (by simp only [List.map_toArray, List.map_cons, List.map_nil]; rfl) ?_
        have hmt := store_Made.calls false H9.out
        rw [HM2.out] at hmt
        refine hmt.mono ?_
        clear hmt
        rintro e w10 ⟨rfl, hb10⟩
        refine ⟨_, rfl, ?_⟩
        have HBf := Aside0.mk (below_step HB9.out hb10); have Hf := Aside0.mk (H9.out.below hb10); have HUf := Aside0.mk (SV.below HU9.out hb10)
        refine hK.out _ _ ((blkB hHeld hb10)) (fun hHeld => ?_)
        clear hK K
        refine norm_ (a' := ?_) ?_ ?_
        rotate_left
        ·show Act.put _ (some 250) _ = _
         simp only [Act.put, List.setIfInBounds_toArray, List.set_cons_zero, List.set_cons_succ, i64_w, i32_w]
         rfl
        refine pure_ (i := 24) (N := some 258) (v := ?_) (a' := ?_) (tf 25 1) rfl rfl (any_of HT_.out (by kernel_rfl)) (fun _ _ _ h => h) (Or.inl ⟨by rfl, ?_⟩) ?_ ?_
        rotate_left
        ·intro w'
         go_simp
         with_reducible rfl
        rotate_left
        ·simp only [Act.put, List.setIfInBounds_toArray, List.set_cons_zero, List.set_cons_succ, i64_w, i32_w]
         rfl
        refine pure_ (i := 25) (N := some 259) (v := ?_) (a' := ?_) (tf 26 0) rfl rfl (any_of HT_.out (by kernel_rfl)) (fun _ _ _ h => h) (Or.inl ⟨by rfl, ?_⟩) ?_ ?_
        rotate_left
        ·intro w'
         go_simp
         with_reducible rfl
        rotate_left
        ·simp only [Act.put, List.setIfInBounds_toArray, List.set_cons_zero, List.set_cons_succ, i64_w, i32_w]
         rfl
        refine done_ (done_of HT_.out (by kernel_rfl)) ?_
        clear n1 n2 n3 n5 hwn HM1 HM2
        go_wp2
        go_roundw
        case rel => exact ⟨i + 1, fr, Lz, Fz, _, _, rfl, by go_num, by omega, HFz, HLz, HBf, Hf, HUf, HA7⟩
        case measure => simp [intOf]; omega
     ·by_cases h567 : kd = 5 ∨ kd = 6 ∨ kd = 7
      ·rcases h567 with rfl | rfl | rfl
       all_goals as_aux_lemma =>
        obtain ⟨y0, y1, y2, y3, y4, y5, -⟩ := bk6 HXB.out
        go_upto_region 35 with (fail)
        clear y0 y1 y2 y3 y4 y5
        have HB3 := Aside0.mk (below_drew1 HB2.out)
        have H3 := Aside0.mk (H2.out.below (below_drew1 (Below.refl _ _)))
        have HU3 := Aside0.mk (SV.below HU2.out (below_drew1 (Below.refl _ _)))
        have HX3 := Aside0.mk (blk_drew HXB.out)
        have n4 : (chkS L F x.f3 x.f4 != chkS L F x.f3 x.f4) = false := bne_self_eq_false _
        clear H2 HU2 HB2 HXB
        refine start_ (n := 17) (S := fun w' => w'.heap[nb]? = some (.cells #[.int .i64 _, .int .i64 x.f1, .string x.f2, .int .i64 x.f3, .int .i64 x.f4, .int .i64 x.f5] 94 (0, 0))) (ds := []) (tf 0 17) (by kernel_rfl) rfl rfl (HX3.out) (fun hHeld => ?_)
        refine with_tabW truantlaw12_StoreExact.tab35 truantlaw12_StoreExact.bits35 (fun HT_ HW_ => ?_)
        generalize wa.drew = w3a at HB3 H3 HU3 HX3 hHeld ⊢
        refine pure_ (i := 0) (N := some 199) (v := ?_) (a' := ?_) (tf 1 16) rfl rfl (any_of HT_.out (by kernel_rfl)) (fun _ _ _ h => h) (Or.inl ⟨by rfl, ?_⟩) ?_ ?_
        rotate_left
        ·intro w'
         go_simp
         with_reducible rfl
        rotate_left
        ·simp only [Act.put, List.setIfInBounds_toArray, List.set_cons_zero, List.set_cons_succ, i64_w, i32_w]
         rfl
        refine pure_ (i := 1) (N := some 200) (v := ?_) (a' := ?_) (tf 2 15) rfl rfl (any_of HT_.out (by kernel_rfl)) (fun _ _ _ h => h) (Or.inl ⟨by rfl, ?_⟩) ?_ ?_
        rotate_left
        ·intro w'
         go_simp
         with_reducible rfl
        rotate_left
        ·simp only [Act.put, List.setIfInBounds_toArray, List.set_cons_zero, List.set_cons_succ, i64_w, i32_w]
         rfl
        refine pure_ (i := 3) (N := some 202) (v := ?_) (a' := ?_) #[true, true, false, true, false, false, false, false, false, false, false, false, false, false, false, false, false] rfl rfl (any_of HT_.out (by kernel_rfl)) (fun _ _ _ h => h) (Or.inl ⟨by rfl, ?_⟩) ?_ ?_
        rotate_left
        ·intro w'
         go_simp
         with_reducible rfl
        rotate_left
        ·simp only [Act.put, List.setIfInBounds_toArray, List.set_cons_zero, List.set_cons_succ, i64_w, i32_w]
         rfl
        refine pure_ (i := 5) (N := some 204) (v := ?_) (a' := ?_) #[true, true, false, true, false, true, false, false, false, false, false, false, false, false, false, false, false] rfl rfl (any_of HT_.out (by kernel_rfl)) (fun _ _ _ h => h) (Or.inl ⟨by rfl, ?_⟩) ?_ ?_
        rotate_left
        ·intro w'
         go_simp
         with_reducible rfl
        rotate_left
        ·simp only [Act.put, List.setIfInBounds_toArray, List.set_cons_zero, List.set_cons_succ, i64_w, i32_w]
         rfl
        refine pure_ (i := 8) (N := some 207) (v := ?_) (a' := ?_) #[true, true, false, true, false, true, false, false, true, false, false, false, false, false, false, false, false] rfl rfl (any_of HT_.out (by kernel_rfl)) (fun _ _ _ h => h) (Or.inl ⟨by rfl, ?_⟩) ?_ ?_
        rotate_left
        ·intro w'
         go_simp
         with_reducible rfl
        rotate_left
        ·simp only [Act.put, List.setIfInBounds_toArray, List.set_cons_zero, List.set_cons_succ, i64_w, i32_w]
         rfl
        refine pure_ (i := 9) (N := some 208) (v := ?_) (a' := ?_) #[true, true, false, true, false, true, false, false, true, true, false, false, false, false, false, false, false] rfl rfl (any_of HT_.out (by kernel_rfl)) (fun _ _ _ h => h) (Or.inl ⟨by rfl, ?_⟩) ?_ ?_
        rotate_left
        ·intro w'
         go_simp
         with_reducible rfl
        rotate_left
        ·simp only [Act.put, List.setIfInBounds_toArray, List.set_cons_zero, List.set_cons_succ, i64_w, i32_w]
         rfl
        refine pure_ (i := 11) (N := some 210) (v := ?_) (a' := ?_) #[true, true, false, true, false, true, false, false, true, true, false, true, false, false, false, false, false] rfl rfl (any_of HT_.out (by kernel_rfl)) (fun _ _ _ h => h) (Or.inl ⟨by rfl, ?_⟩) ?_ ?_
        rotate_left
        ·intro w'
         go_simp
         with_reducible rfl
        rotate_left
        ·simp only [Act.put, List.setIfInBounds_toArray, List.set_cons_zero, List.set_cons_succ, i64_w, i32_w]
         rfl
        refine pure_ (i := 13) (N := some 212) (v := ?_) (a' := ?_) #[true, true, false, true, false, true, false, false, true, true, false, true, false, true, false, false, false] rfl rfl (any_of HT_.out (by kernel_rfl)) (fun _ _ _ h => h) (Or.inl ⟨by rfl, ?_⟩) ?_ ?_
        rotate_left
        ·intro w'
         go_simp
         with_reducible rfl
        rotate_left
        ·simp only [Act.put, List.setIfInBounds_toArray, List.set_cons_zero, List.set_cons_succ, i64_w, i32_w]
         rfl
        refine take_ (i := 2) (N := some 201) (v := ?_) (a' := ?_) #[true, true, true, true, false, true, false, false, true, true, false, true, false, true, false, false, false] rfl rfl (take_ofW HT_.out HW_.out (by kernel_rfl)) (fun _ _ _ h => h) (Or.inl ⟨by rfl, ?_⟩) hHeld ?_ ?_
        rotate_left
        ·intro w' s0
         obtain ⟨c0_, c1_, c2_, c3_, c4_, c5_, -⟩ := bk6 s0
         go_simp
         with_reducible rfl
        rotate_left
        ·simp only [Act.put, List.setIfInBounds_toArray, List.set_cons_zero, List.set_cons_succ, i64_w, i32_w]
         rfl
        refine take_ (i := 4) (N := some 203) (v := ?_) (a' := ?_) #[true, true, true, true, true, true, false, false, true, true, false, true, false, true, false, false, false] rfl rfl (take_ofW HT_.out HW_.out (by kernel_rfl)) (fun _ _ _ h => h) (Or.inl ⟨by rfl, ?_⟩) hHeld ?_ ?_
        rotate_left
        ·intro w' s0
         obtain ⟨c0_, c1_, c2_, c3_, c4_, c5_, -⟩ := bk6 s0
         go_simp
         with_reducible rfl
        rotate_left
        ·simp only [Act.put, List.setIfInBounds_toArray, List.set_cons_zero, List.set_cons_succ, i64_w, i32_w]
         rfl
        refine take_ (i := 6) (N := some 205) (v := ?_) (a' := ?_) #[true, true, true, true, true, true, true, false, true, true, false, true, false, true, false, false, false] rfl rfl (take_ofW HT_.out HW_.out (by kernel_rfl)) (fun _ _ _ h => h) (Or.inl ⟨by rfl, ?_⟩) hHeld ?_ ?_
        rotate_left
        ·intro w' s0
         obtain ⟨c0_, c1_, c2_, c3_, c4_, c5_, -⟩ := bk6 s0
         go_simp
         with_reducible rfl
        rotate_left
        ·simp only [Act.put, List.setIfInBounds_toArray, List.set_cons_zero, List.set_cons_succ, i64_w, i32_w]
         rfl
        refine take_ (i := 10) (N := some 209) (v := ?_) (a' := ?_) #[true, true, true, true, true, true, true, false, true, true, true, true, false, true, false, false, false] rfl rfl (take_ofW HT_.out HW_.out (by kernel_rfl)) (fun _ _ _ h => h) (Or.inl ⟨by rfl, ?_⟩) hHeld ?_ ?_
        rotate_left
        ·intro w' s0
         obtain ⟨c0_, c1_, c2_, c3_, c4_, c5_, -⟩ := bk6 s0
         go_simp
         with_reducible rfl
        rotate_left
        ·simp only [Act.put, List.setIfInBounds_toArray, List.set_cons_zero, List.set_cons_succ, i64_w, i32_w]
         rfl
        refine take_ (i := 12) (N := some 211) (v := ?_) (a' := ?_) #[true, true, true, true, true, true, true, false, true, true, true, true, true, true, false, false, false] rfl rfl (take_ofW HT_.out HW_.out (by kernel_rfl)) (fun _ _ _ h => h) (Or.inl ⟨by rfl, ?_⟩) hHeld ?_ ?_
        rotate_left
        ·intro w' s0
         obtain ⟨c0_, c1_, c2_, c3_, c4_, c5_, -⟩ := bk6 s0
         go_simp
         with_reducible rfl
        rotate_left
        ·simp only [Act.put, List.setIfInBounds_toArray, List.set_cons_zero, List.set_cons_succ, i64_w, i32_w]
         rfl
        refine take_ (i := 14) (N := some 213) (v := ?_) (a' := ?_) #[true, true, true, true, true, true, true, false, true, true, true, true, true, true, true, false, false] rfl rfl (take_ofW HT_.out HW_.out (by kernel_rfl)) (fun _ _ _ h => h) (Or.inl ⟨by rfl, ?_⟩) hHeld ?_ ?_
        rotate_left
        ·intro w' s0
         obtain ⟨c0_, c1_, c2_, c3_, c4_, c5_, -⟩ := bk6 s0
         go_simp
         with_reducible rfl
        rotate_left
        ·simp only [Act.put, List.setIfInBounds_toArray, List.set_cons_zero, List.set_cons_succ, i64_w, i32_w]
         rfl
        refine one_ (i := 7) (N := some 206) (tf 15 2) rfl rfl (one_of HT_.out (by kernel_rfl)) (by decide) (fun K hK => ?_)
        refine goes_ Try.func52 (by kernel_rfl) rfl #[ptr g, .int .i64 x.f3, .int .i64 x.f4, .int .i64 x.f5] (by rfl) rfl rfl (by simp only [List.map_toArray, List.map_cons, List.map_nil]; rfl) ?_
        refine (store_Set.calls x.f3 x.f4 x.f5 H3.out).mono ?_
        rintro e w6 ⟨rfl, hp6, hk6, hb6⟩
        refine ⟨_, rfl, ?_⟩
        have H6 := Aside0.mk hp6; have HU6 := Aside0.mk (SW.beside HU3.out hk6 HA.out); have HA6 := Aside0.mk (apart_l (w := w3a) HA.out)
        have HB6 := Aside0.mk (HB3.out.trans (hb6.mono HW.out)); have HX6 := Aside0.mk (blk_kept hHeld hk6 HNT.out)
        have HNU6 : Aside0 (¬ (U nb ∧ nb < w3a.heap.size)) := ⟨fun h_ => HNU.out h_.1⟩
        clear hp6 hk6 hb6
        refine hK.out _ _ (HX6.out) (fun hHeld => ?_)
        clear hK K
        refine norm_ (a' := ?_) ?_ ?_
        rotate_left
        ·show Act.put _ (some 206) _ = _
         simp only [Act.put, List.setIfInBounds_toArray, List.set_cons_zero, List.set_cons_succ, i64_w, i32_w]
         rfl
        refine one_ (i := 15) (N := some 214) (tf 16 1) rfl rfl (one_of HT_.out (by kernel_rfl)) (by decide) (fun K hK => ?_)
        refine goes_ Try.func63 (by kernel_rfl) rfl #[ptr u, .int .i64 x.f3, .int .i64 x.f4, .int .i64 x.f5] (by rfl) rfl rfl (by simp only [List.map_toArray, List.map_cons, List.map_nil]; rfl) ?_
        refine (ref12_Set.calls x.f3 x.f4 x.f5 HU6.out).mono ?_
        rintro e w7 ⟨rfl, hp7, hk7, hb7⟩
        refine ⟨_, rfl, ?_⟩
        have HU7 := Aside0.mk hp7; have H7 := Aside0.mk (H6.out.beside hk7 (fun k hu ht => HA6.out k ht hu)); have HA7 := Aside0.mk (apart_r (w := w6) HA6.out)
        have HB7 := Aside0.mk (HB6.out.trans (hb7.mono HUW.out)); have HX7 := Aside0.mk (blk_kept hHeld hk7 HNU6.out)
        clear hp7 hk7 hb7
        refine hK.out _ _ (HX7.out) (fun hHeld => ?_)
        clear hK K
        refine norm_ (a' := ?_) ?_ ?_
        rotate_left
        ·show Act.put _ (some 214) _ = _
         simp only [Act.put, List.setIfInBounds_toArray, List.set_cons_zero, List.set_cons_succ, i64_w, i32_w]
         rfl
        refine pure_ (i := 16) (N := some 215) (v := ?_) (a' := ?_) (tf 17 0) rfl rfl (any_of HT_.out (by kernel_rfl)) (fun _ _ _ h => h) (Or.inl ⟨by rfl, ?_⟩) ?_ ?_
        rotate_left
        ·intro w'
         go_simp
         with_reducible rfl
        rotate_left
        ·simp only [Act.put, List.setIfInBounds_toArray, List.set_cons_zero, List.set_cons_succ, i64_w, i32_w]
         rfl
        refine done_ (done_of HT_.out (by kernel_rfl)) ?_
        obtain ⟨Lz, hLz⟩ : ∃ Lz, Lz = setS L F x.f3 x.f4 x.f5 := ⟨_, rfl⟩
        obtain ⟨Fz, hFz⟩ : ∃ Fz, Fz = F := ⟨_, rfl⟩
        have HLz : Aside0 (Lz.length ≤ i + 1 ∧ Fz.length ≤ i + 1 ∧ OkT l0 Lz ∧ FB Lz Fz) := ⟨by rw [hLz, hFz]; exact ⟨by rw [setS_len]; have := HL.out.1; omega, by have := HL.out.2.1; omega, okT_set HL.out.2.2.1 _ _ _, fb_set HL.out.2.2.2 _ _ _⟩⟩
        have HFz : Aside0 (fr = frN Lz) := ⟨by rw [hLz]; exact by rw [frN_set]; exact HFR.out⟩
        rw [← hLz, ← hFz] at H7 HU7
        clear hLz hFz HL
        obtain ⟨y0, y1, y2, y3, y4, y5, -⟩ := bk6 HX7.out
        go_wp2_with fail
        refine (store_Get.calls x.f3 x.f4 H7.out).mono ?_
        rintro e wA ⟨rfl, hbA⟩
        have HBA := Aside0.mk (below_step HB7.out hbA); have HTA := Aside0.mk (H7.out.below hbA); have HUA := Aside0.mk (SV.below HU7.out hbA); have HXA := Aside0.mk (blk_below HX7.out hbA)
        clear y0 y1 y2 y3 y4 y5 hbA HB7 H7 HU7 HX7
        obtain ⟨y0, y1, y2, y3, y4, y5, -⟩ := bk6 HXA.out
        go_wp2_with fail
        refine (ref12_Get.calls x.f3 x.f4 HUA.out).mono ?_
        rintro e wC ⟨rfl, hbC⟩
        have HBC := Aside0.mk (below_step HBA.out hbC); have HTC := Aside0.mk (HTA.out.below hbC); have HUC := Aside0.mk (SV.below HUA.out hbC)
        clear y0 y1 y2 y3 y4 y5 hbC HBA HTA HUA HXA
        have n1 : (getS Lz Fz x.f3 x.f4 != getS Lz Fz x.f3 x.f4) = false := bne_self_eq_false _
        have n2 : (chkS Lz Fz x.f3 x.f4 != chkS Lz Fz x.f3 x.f4) = false := bne_self_eq_false _
        have n3 : (fr != fr) = false := bne_self_eq_false _
        have HM1 : Aside0 (madeS Lz true = fr) := ⟨HFz.out.symm⟩
        obtain ⟨nf, hnf⟩ : ∃ nf, nf = madeS Lz false := ⟨_, rfl⟩
        have HM2 : Aside0 (madeS Lz false = nf) := ⟨hnf.symm⟩
        have n5 : (nf != nf) = false := bne_self_eq_false _
        have hwn : IntKind.i64.wrap ((Lz.length : Int) - fr) = nf := by
         have h1 := frN_0 Lz
         have h2 := HLz.out.1
         have h3 : nf = (Lz.length : Int) - frN Lz := hnf
         rw [HFz.out, IntKind.wrap_i64, h3]
         omega
        clear hnf
        obtain ⟨svU, lvU, fvU, sokU, lokU, fokU, hsu, -⟩ := HUC.out
        obtain ⟨Al, cl, el, -, hml⟩ := hsu.list
        rw [L4_len] at el hml
        subst el
        have HSU := Aside0.mk hsu
        clear hsu
        go_upto_region 39 with (fail)
        have HB2 := Aside0.mk (below_drew1 HBC.out)
        have H2r := Aside0.mk (HTC.out.below (below_drew1 (Below.refl _ _)))
        have HU2r := Aside0.mk (SV.below HUC.out (below_drew1 (Below.refl _ _)))
        have HSU2 := Aside0.mk (HSU.out.below (below_drew1 (Below.refl _ _)))
        clear HBC HTC HUC HSU
        refine start_ (n := 26) (S := fun w' => w'.heap[u]? = some (.cells #[svU, .slice Al Lz.length cl, fvU] 92 (0, 0))) (ds := []) (tf 0 26) (by kernel_rfl) rfl rfl (HSU2.out.blk) (fun hHeld => ?_)
        refine with_tabW truantlaw12_StoreExact.tab39 truantlaw12_StoreExact.bits39 (fun HT_ HW_ => ?_)
        generalize wC.drew = w3a at HB2 H2r HU2r HSU2 hHeld ⊢
        refine pure_ (i := 0) (N := some 234) (v := ?_) (a' := ?_) (tf 1 25) rfl rfl (any_of HT_.out (by kernel_rfl)) (fun _ _ _ h => h) (Or.inl ⟨by rfl, ?_⟩) ?_ ?_
        rotate_left
        ·intro w'
         go_simp
         with_reducible rfl
        rotate_left
        ·simp only [Act.put, List.setIfInBounds_toArray, List.set_cons_zero, List.set_cons_succ, i64_w, i32_w]
         rfl
        refine pure_ (i := 1) (N := some 235) (v := ?_) (a' := ?_) (tf 2 24) rfl rfl (any_of HT_.out (by kernel_rfl)) (fun _ _ _ h => h) (Or.inl ⟨by rfl, ?_⟩) ?_ ?_
        rotate_left
        ·intro w'
         go_simp
         with_reducible rfl
        rotate_left
        ·simp only [Act.put, List.setIfInBounds_toArray, List.set_cons_zero, List.set_cons_succ, i64_w, i32_w]
         rfl
        refine pure_ (i := 2) (N := some 236) (v := ?_) (a' := ?_) (tf 3 23) rfl rfl (any_of HT_.out (by kernel_rfl)) (fun _ _ _ h => h) (Or.inl ⟨by rfl, ?_⟩) ?_ ?_
        rotate_left
        ·intro w'
         go_simp
         with_reducible rfl
        rotate_left
        ·simp only [Act.put, List.setIfInBounds_toArray, List.set_cons_zero, List.set_cons_succ, i64_w, i32_w]
         rfl
        refine pure_ (i := 3) (N := some 237) (v := ?_) (a' := ?_) (tf 4 22) rfl rfl (any_of HT_.out (by kernel_rfl)) (fun _ _ _ h => h) (Or.inl ⟨by rfl, ?_⟩) ?_ ?_
        rotate_left
        ·intro w'
         go_simp
         with_reducible rfl
        rotate_left
        ·simp only [Act.put, List.setIfInBounds_toArray, List.set_cons_zero, List.set_cons_succ, i64_w, i32_w]
         rfl
        refine pure_ (i := 4) (N := some 238) (v := ?_) (a' := ?_) (tf 5 21) rfl rfl (any_of HT_.out (by kernel_rfl)) (fun _ _ _ h => h) (Or.inl ⟨by rfl, ?_⟩) ?_ ?_
        rotate_left
        ·intro w'
         go_simp
         with_reducible rfl
        rotate_left
        ·simp only [Act.put, List.setIfInBounds_toArray, List.set_cons_zero, List.set_cons_succ, i64_w, i32_w]
         rfl
        refine pure_ (i := 5) (N := some 239) (v := ?_) (a' := ?_) (tf 6 20) rfl rfl (any_of HT_.out (by kernel_rfl)) (fun _ _ _ h => h) (Or.inl ⟨by rfl, ?_⟩) ?_ ?_
        rotate_left
        ·intro w'
         go_simp
         with_reducible rfl
        rotate_left
        ·simp only [Act.put, List.setIfInBounds_toArray, List.set_cons_zero, List.set_cons_succ, i64_w, i32_w]
         rfl
        refine pure_ (i := 6) (N := some 240) (v := ?_) (a' := ?_) (tf 7 19) rfl rfl (any_of HT_.out (by kernel_rfl)) (fun _ _ _ h => h) (Or.inl ⟨by rfl, ?_⟩) ?_ ?_
        rotate_left
        ·intro w'
         go_simp
         with_reducible rfl
        rotate_left
        ·simp only [Act.put, List.setIfInBounds_toArray, List.set_cons_zero, List.set_cons_succ, i64_w, i32_w]
         rfl
        refine pure_ (i := 7) (N := some 241) (v := ?_) (a' := ?_) (tf 8 18) rfl rfl (any_of HT_.out (by kernel_rfl)) (fun _ _ _ h => h) (Or.inl ⟨by rfl, ?_⟩) ?_ ?_
        rotate_left
        ·intro w'
         go_simp
         with_reducible rfl
        rotate_left
        ·simp only [Act.put, List.setIfInBounds_toArray, List.set_cons_zero, List.set_cons_succ, i64_w, i32_w]
         rfl
        refine pure_ (i := 8) (N := some 242) (v := ?_) (a' := ?_) (tf 9 17) rfl rfl (any_of HT_.out (by kernel_rfl)) (fun _ _ _ h => h) (Or.inl ⟨by rfl, ?_⟩) ?_ ?_
        rotate_left
        ·intro w'
         go_simp
         with_reducible rfl
        rotate_left
        ·simp only [Act.put, List.setIfInBounds_toArray, List.set_cons_zero, List.set_cons_succ, i64_w, i32_w]
         rfl
        refine pure_ (i := 9) (N := some 243) (v := ?_) (a' := ?_) (tf 10 16) rfl rfl (any_of HT_.out (by kernel_rfl)) (fun _ _ _ h => h) (Or.inl ⟨by rfl, ?_⟩) ?_ ?_
        rotate_left
        ·intro w'
         go_simp
         with_reducible rfl
        rotate_left
        ·simp only [Act.put, List.setIfInBounds_toArray, List.set_cons_zero, List.set_cons_succ, i64_w, i32_w]
         rfl
        refine pure_ (i := 11) (N := some 245) (v := ?_) (a' := ?_) #[true, true, true, true, true, true, true, true, true, true, false, true, false, false, false, false, false, false, false, false, false, false, false, false, false, false] rfl rfl (any_of HT_.out (by kernel_rfl)) (fun _ _ _ h => h) (Or.inl ⟨by rfl, ?_⟩) ?_ ?_
        rotate_left
        ·intro w'
         go_simp
         with_reducible rfl
        rotate_left
        ·simp only [Act.put, List.setIfInBounds_toArray, List.set_cons_zero, List.set_cons_succ, i64_w, i32_w]
         rfl
        refine one_ (i := 10) (N := some 244) (tf 12 14) rfl rfl (one_of HT_.out (by kernel_rfl)) (by decide) (fun K hK => ?_)
        refine goes_ Try.func57 (by kernel_rfl) rfl #[ptr g, .bool true] (by rfl) rfl rfl (by simp only [List.map_toArray, List.map_cons, List.map_nil]; rfl) ?_
        have hmt := store_Made.calls true H2r.out
        rw [HM1.out] at hmt
        refine hmt.mono ?_
        clear hmt
        rintro e w9 ⟨rfl, hb9⟩
        refine ⟨_, rfl, ?_⟩
        have HB9 := Aside0.mk (below_step HB2.out hb9); have H9 := Aside0.mk (H2r.out.below hb9); have HU9 := Aside0.mk (SV.below HU2r.out hb9)
        refine hK.out _ _ ((blkB hHeld hb9)) (fun hHeld => ?_)
        clear hK K
        refine norm_ (a' := ?_) ?_ ?_
        rotate_left
        ·show Act.put _ (some 244) _ = _
         simp only [Act.put, List.setIfInBounds_toArray, List.set_cons_zero, List.set_cons_succ, i64_w, i32_w]
         rfl
        refine pure_ (i := 12) (N := some 246) (v := ?_) (a' := ?_) (tf 13 13) rfl rfl (any_of HT_.out (by kernel_rfl)) (fun _ _ _ h => h) (Or.inl ⟨by rfl, ?_⟩) ?_ ?_
        rotate_left
        ·intro w'
         go_simp
         with_reducible rfl
        rotate_left
        ·simp only [Act.put, List.setIfInBounds_toArray, List.set_cons_zero, List.set_cons_succ, i64_w, i32_w]
         rfl
        refine pure_ (i := 13) (N := some 247) (v := ?_) (a' := ?_) (tf 14 12) rfl rfl (any_of HT_.out (by kernel_rfl)) (fun _ _ _ h => h) (Or.inl ⟨by rfl, ?_⟩) ?_ ?_
        rotate_left
        ·intro w'
         go_simp
         with_reducible rfl
        rotate_left
        ·simp only [Act.put, List.setIfInBounds_toArray, List.set_cons_zero, List.set_cons_succ, i64_w, i32_w]
         rfl
        refine pure_ (i := 14) (N := some 248) (v := ?_) (a' := ?_) (tf 15 11) rfl rfl (any_of HT_.out (by kernel_rfl)) (fun _ _ _ h => h) (Or.inl ⟨by rfl, ?_⟩) ?_ ?_
        rotate_left
        ·intro w'
         go_simp
         with_reducible rfl
        rotate_left
        ·simp only [Act.put, List.setIfInBounds_toArray, List.set_cons_zero, List.set_cons_succ, i64_w, i32_w]
         rfl
        refine pure_ (i := 15) (N := some 249) (v := ?_) (a' := ?_) (tf 16 10) rfl rfl (any_of HT_.out (by kernel_rfl)) (fun _ _ _ h => h) (Or.inl ⟨by rfl, ?_⟩) ?_ ?_
        rotate_left
        ·intro w'
         go_simp
         with_reducible rfl
        rotate_left
        ·simp only [Act.put, List.setIfInBounds_toArray, List.set_cons_zero, List.set_cons_succ, i64_w, i32_w]
         rfl
        refine pure_ (i := 17) (N := some 251) (v := ?_) (a' := ?_) #[true, true, true, true, true, true, true, true, true, true, true, true, true, true, true, true, false, true, false, false, false, false, false, false, false, false] rfl rfl (any_of HT_.out (by kernel_rfl)) (fun _ _ _ h => h) (Or.inl ⟨by rfl, ?_⟩) ?_ ?_
        rotate_left
        ·intro w'
         go_simp
         with_reducible rfl
        rotate_left
        ·simp only [Act.put, List.setIfInBounds_toArray, List.set_cons_zero, List.set_cons_succ, i64_w, i32_w]
         rfl
        refine pure_ (i := 18) (N := some 252) (v := ?_) (a' := ?_) #[true, true, true, true, true, true, true, true, true, true, true, true, true, true, true, true, false, true, true, false, false, false, false, false, false, false] rfl rfl (any_of HT_.out (by kernel_rfl)) (fun _ _ _ h => h) (Or.inl ⟨by rfl, ?_⟩) ?_ ?_
        rotate_left
        ·intro w'
         go_simp
         with_reducible rfl
        rotate_left
        ·simp only [Act.put, List.setIfInBounds_toArray, List.set_cons_zero, List.set_cons_succ, i64_w, i32_w]
         rfl
        refine pure_ (i := 19) (N := some 253) (v := ?_) (a' := ?_) #[true, true, true, true, true, true, true, true, true, true, true, true, true, true, true, true, false, true, true, true, false, false, false, false, false, false] rfl rfl (any_of HT_.out (by kernel_rfl)) (fun _ _ _ h => h) (Or.inl ⟨by rfl, ?_⟩) ?_ ?_
        rotate_left
        ·intro w'
         go_simp
         with_reducible rfl
        rotate_left
        ·simp only [Act.put, List.setIfInBounds_toArray, List.set_cons_zero, List.set_cons_succ, i64_w, i32_w]
         rfl
        refine pure_ (i := 22) (N := some 256) (v := ?_) (a' := ?_) #[true, true, true, true, true, true, true, true, true, true, true, true, true, true, true, true, false, true, true, true, false, false, true, false, false, false] rfl rfl (any_of HT_.out (by kernel_rfl)) (fun _ _ _ h => h) (Or.inl ⟨by rfl, ?_⟩) ?_ ?_
        rotate_left
        ·intro w'
         go_simp
         with_reducible rfl
        rotate_left
        ·simp only [Act.put, List.setIfInBounds_toArray, List.set_cons_zero, List.set_cons_succ, i64_w, i32_w]
         rfl
        refine take_ (i := 20) (N := some 254) (v := ?_) (a' := ?_) #[true, true, true, true, true, true, true, true, true, true, true, true, true, true, true, true, false, true, true, true, true, false, true, false, false, false] rfl rfl (take_ofW HT_.out HW_.out (by kernel_rfl)) (fun _ _ _ h => h) (Or.inl ⟨by rfl, ?_⟩) hHeld ?_ ?_
        rotate_left
        ·intro w' s0
         obtain ⟨z0, z1, z2, -, -, -⟩ := bk3 s0
         go_simp
         with_reducible rfl
        rotate_left
        ·simp only [Act.put, List.setIfInBounds_toArray, List.set_cons_zero, List.set_cons_succ, i64_w, i32_w]
         rfl
        refine pure_ (i := 21) (N := some 255) (v := ?_) (a' := ?_) #[true, true, true, true, true, true, true, true, true, true, true, true, true, true, true, true, false, true, true, true, true, true, true, false, false, false] rfl rfl (any_of HT_.out (by kernel_rfl)) (fun _ _ _ h => h) (Or.inl ⟨by rfl, ?_⟩) ?_ ?_
        rotate_left
        ·intro w'
         go_simp
         with_reducible rfl
        rotate_left
        ·simp only [Act.put, List.setIfInBounds_toArray, List.set_cons_zero, List.set_cons_succ, i64_w, i32_w]
         rfl
        refine pure_ (i := 23) (N := some 257) (v := ?_) (a' := ?_) #[true, true, true, true, true, true, true, true, true, true, true, true, true, true, true, true, false, true, true, true, true, true, true, true, false, false] rfl rfl (any_of HT_.out (by kernel_rfl)) (fun _ _ _ h => h) (Or.inl ⟨by rfl, ?_⟩) ?_ ?_
        rotate_left
        ·intro w'
         go_simp
         with_reducible rfl
        rotate_left
        ·simp only [Act.put, List.setIfInBounds_toArray, List.set_cons_zero, List.set_cons_succ, i64_w, i32_w]
         rfl
        refine one_ (i := 16) (N := some 250) (tf 24 2) rfl rfl (one_of HT_.out (by kernel_rfl)) (by decide) (fun K hK => ?_)
        refine goes_ Try.func57 (by kernel_rfl) rfl #[ptr g, .bool false] (by rfl) rfl rfl (by simp only [List.map_toArray, List.map_cons, List.map_nil]; rfl) ?_
        have hmt := store_Made.calls false H9.out
        rw [HM2.out] at hmt
        refine hmt.mono ?_
        clear hmt
        rintro e w10 ⟨rfl, hb10⟩
        refine ⟨_, rfl, ?_⟩
        have HBf := Aside0.mk (below_step HB9.out hb10); have Hf := Aside0.mk (H9.out.below hb10); have HUf := Aside0.mk (SV.below HU9.out hb10)
        refine hK.out _ _ ((blkB hHeld hb10)) (fun hHeld => ?_)
        clear hK K
        refine norm_ (a' := ?_) ?_ ?_
        rotate_left
        ·show Act.put _ (some 250) _ = _
         simp only [Act.put, List.setIfInBounds_toArray, List.set_cons_zero, List.set_cons_succ, i64_w, i32_w]
         rfl
        refine pure_ (i := 24) (N := some 258) (v := ?_) (a' := ?_) (tf 25 1) rfl rfl (any_of HT_.out (by kernel_rfl)) (fun _ _ _ h => h) (Or.inl ⟨by rfl, ?_⟩) ?_ ?_
        rotate_left
        ·intro w'
         go_simp
         with_reducible rfl
        rotate_left
        ·simp only [Act.put, List.setIfInBounds_toArray, List.set_cons_zero, List.set_cons_succ, i64_w, i32_w]
         rfl
        refine pure_ (i := 25) (N := some 259) (v := ?_) (a' := ?_) (tf 26 0) rfl rfl (any_of HT_.out (by kernel_rfl)) (fun _ _ _ h => h) (Or.inl ⟨by rfl, ?_⟩) ?_ ?_
        rotate_left
        ·intro w'
         go_simp
         with_reducible rfl
        rotate_left
        ·simp only [Act.put, List.setIfInBounds_toArray, List.set_cons_zero, List.set_cons_succ, i64_w, i32_w]
         rfl
        refine done_ (done_of HT_.out (by kernel_rfl)) ?_
        clear n1 n2 n3 n5 hwn HM1 HM2
        go_wp2
        go_roundw
        case rel => exact ⟨i + 1, fr, Lz, Fz, _, _, rfl, by go_num, by omega, HFz, HLz, HBf, Hf, HUf, HA7⟩
        case measure => simp [intOf]; omega
      ·as_aux_lemma =>
       have k1 : (kd == 1) = false := beq_eq_false_iff_ne.mpr h1
       have k2 : (kd == 2) = false := beq_eq_false_iff_ne.mpr h2
       have k3 : (kd == 3) = false := beq_eq_false_iff_ne.mpr (fun e => h34 (.inl e))
       have k4 : (kd == 4) = false := beq_eq_false_iff_ne.mpr (fun e => h34 (.inr e))
       have k5 : (kd == 5) = false := beq_eq_false_iff_ne.mpr (fun e => h567 (.inl e))
       have k6 : (kd == 6) = false := beq_eq_false_iff_ne.mpr (fun e => h567 (.inr (.inl e)))
       have k7 : (kd == 7) = false := beq_eq_false_iff_ne.mpr (fun e => h567 (.inr (.inr e)))
       clear HNT HNU
       have H7 := H2; have HU7 := HU2; have HB7 := HB2; have HX7 := HXB; have HA7 := HA
       clear H2 HU2 HB2 HXB HA
       obtain ⟨Lz, hLz⟩ : ∃ Lz, Lz = L := ⟨_, rfl⟩
       obtain ⟨Fz, hFz⟩ : ∃ Fz, Fz = F := ⟨_, rfl⟩
       have HLz : Aside0 (Lz.length ≤ i + 1 ∧ Fz.length ≤ i + 1 ∧ OkT l0 Lz ∧ FB Lz Fz) := ⟨by rw [hLz, hFz]; exact ⟨by have := HL.out.1; omega, by have := HL.out.2.1; omega, HL.out.2.2.1, HL.out.2.2.2⟩⟩
       have HFz : Aside0 (fr = frN Lz) := ⟨by rw [hLz]; exact HFR.out⟩
       rw [← hLz, ← hFz] at H7 HU7
       clear hLz hFz HL
       obtain ⟨y0, y1, y2, y3, y4, y5, -⟩ := bk6 HX7.out
       go_wp2_with fail
       refine (store_Get.calls x.f3 x.f4 H7.out).mono ?_
       rintro e wA ⟨rfl, hbA⟩
       have HBA := Aside0.mk (below_step HB7.out hbA); have HTA := Aside0.mk (H7.out.below hbA); have HUA := Aside0.mk (SV.below HU7.out hbA); have HXA := Aside0.mk (blk_below HX7.out hbA)
       clear y0 y1 y2 y3 y4 y5 hbA HB7 H7 HU7 HX7
       obtain ⟨y0, y1, y2, y3, y4, y5, -⟩ := bk6 HXA.out
       go_wp2_with fail
       refine (ref12_Get.calls x.f3 x.f4 HUA.out).mono ?_
       rintro e wC ⟨rfl, hbC⟩
       have HBC := Aside0.mk (below_step HBA.out hbC); have HTC := Aside0.mk (HTA.out.below hbC); have HUC := Aside0.mk (SV.below HUA.out hbC)
       clear y0 y1 y2 y3 y4 y5 hbC HBA HTA HUA HXA
       have n1 : (getS Lz Fz x.f3 x.f4 != getS Lz Fz x.f3 x.f4) = false := bne_self_eq_false _
       have n2 : (chkS Lz Fz x.f3 x.f4 != chkS Lz Fz x.f3 x.f4) = false := bne_self_eq_false _
       have n3 : (fr != fr) = false := bne_self_eq_false _
       have HM1 : Aside0 (madeS Lz true = fr) := ⟨HFz.out.symm⟩
       obtain ⟨nf, hnf⟩ : ∃ nf, nf = madeS Lz false := ⟨_, rfl⟩
       have HM2 : Aside0 (madeS Lz false = nf) := ⟨hnf.symm⟩
       have n5 : (nf != nf) = false := bne_self_eq_false _
       have hwn : IntKind.i64.wrap ((Lz.length : Int) - fr) = nf := by
        have h1 := frN_0 Lz
        have h2 := HLz.out.1
        have h3 : nf = (Lz.length : Int) - frN Lz := hnf
        rw [HFz.out, IntKind.wrap_i64, h3]
        omega
       clear hnf
       obtain ⟨svU, lvU, fvU, sokU, lokU, fokU, hsu, -⟩ := HUC.out
       obtain ⟨Al, cl, el, -, hml⟩ := hsu.list
       rw [L4_len] at el hml
       subst el
       have HSU := Aside0.mk hsu
       clear hsu
       go_upto_region 39 with (fail)
       have HB2 := Aside0.mk (below_drew1 HBC.out)
       have H2r := Aside0.mk (HTC.out.below (below_drew1 (Below.refl _ _)))
       have HU2r := Aside0.mk (SV.below HUC.out (below_drew1 (Below.refl _ _)))
       have HSU2 := Aside0.mk (HSU.out.below (below_drew1 (Below.refl _ _)))
       clear HBC HTC HUC HSU
       refine start_ (n := 26) (S := fun w' => w'.heap[u]? = some (.cells #[svU, .slice Al Lz.length cl, fvU] 92 (0, 0))) (ds := []) (tf 0 26) (by kernel_rfl) rfl rfl (HSU2.out.blk) (fun hHeld => ?_)
       refine with_tabW truantlaw12_StoreExact.tab39 truantlaw12_StoreExact.bits39 (fun HT_ HW_ => ?_)
       generalize wC.drew = w3a at HB2 H2r HU2r HSU2 hHeld ⊢
       refine pure_ (i := 0) (N := some 234) (v := ?_) (a' := ?_) (tf 1 25) rfl rfl (any_of HT_.out (by kernel_rfl)) (fun _ _ _ h => h) (Or.inl ⟨by rfl, ?_⟩) ?_ ?_
       rotate_left
       ·intro w'
        go_simp
        with_reducible rfl
       rotate_left
       ·simp only [Act.put, List.setIfInBounds_toArray, List.set_cons_zero, List.set_cons_succ, i64_w, i32_w]
        rfl
       refine pure_ (i := 1) (N := some 235) (v := ?_) (a' := ?_) (tf 2 24) rfl rfl (any_of HT_.out (by kernel_rfl)) (fun _ _ _ h => h) (Or.inl ⟨by rfl, ?_⟩) ?_ ?_
       rotate_left
       ·intro w'
        go_simp
        with_reducible rfl
       rotate_left
       ·simp only [Act.put, List.setIfInBounds_toArray, List.set_cons_zero, List.set_cons_succ, i64_w, i32_w]
        rfl
       refine pure_ (i := 2) (N := some 236) (v := ?_) (a' := ?_) (tf 3 23) rfl rfl (any_of HT_.out (by kernel_rfl)) (fun _ _ _ h => h) (Or.inl ⟨by rfl, ?_⟩) ?_ ?_
       rotate_left
       ·intro w'
        go_simp
        with_reducible rfl
       rotate_left
       ·simp only [Act.put, List.setIfInBounds_toArray, List.set_cons_zero, List.set_cons_succ, i64_w, i32_w]
        rfl
       refine pure_ (i := 3) (N := some 237) (v := ?_) (a' := ?_) (tf 4 22) rfl rfl (any_of HT_.out (by kernel_rfl)) (fun _ _ _ h => h) (Or.inl ⟨by rfl, ?_⟩) ?_ ?_
       rotate_left
       ·intro w'
        go_simp
        with_reducible rfl
       rotate_left
       ·simp only [Act.put, List.setIfInBounds_toArray, List.set_cons_zero, List.set_cons_succ, i64_w, i32_w]
        rfl
       refine pure_ (i := 4) (N := some 238) (v := ?_) (a' := ?_) (tf 5 21) rfl rfl (any_of HT_.out (by kernel_rfl)) (fun _ _ _ h => h) (Or.inl ⟨by rfl, ?_⟩) ?_ ?_
       rotate_left
       ·intro w'
        go_simp
        with_reducible rfl
       rotate_left
       ·simp only [Act.put, List.setIfInBounds_toArray, List.set_cons_zero, List.set_cons_succ, i64_w, i32_w]
        rfl
       refine pure_ (i := 5) (N := some 239) (v := ?_) (a' := ?_) (tf 6 20) rfl rfl (any_of HT_.out (by kernel_rfl)) (fun _ _ _ h => h) (Or.inl ⟨by rfl, ?_⟩) ?_ ?_
       rotate_left
       ·intro w'
        go_simp
        with_reducible rfl
       rotate_left
       ·simp only [Act.put, List.setIfInBounds_toArray, List.set_cons_zero, List.set_cons_succ, i64_w, i32_w]
        rfl
       refine pure_ (i := 6) (N := some 240) (v := ?_) (a' := ?_) (tf 7 19) rfl rfl (any_of HT_.out (by kernel_rfl)) (fun _ _ _ h => h) (Or.inl ⟨by rfl, ?_⟩) ?_ ?_
       rotate_left
       ·intro w'
        go_simp
        with_reducible rfl
       rotate_left
       ·simp only [Act.put, List.setIfInBounds_toArray, List.set_cons_zero, List.set_cons_succ, i64_w, i32_w]
        rfl
       refine pure_ (i := 7) (N := some 241) (v := ?_) (a' := ?_) (tf 8 18) rfl rfl (any_of HT_.out (by kernel_rfl)) (fun _ _ _ h => h) (Or.inl ⟨by rfl, ?_⟩) ?_ ?_
       rotate_left
       ·intro w'
        go_simp
        with_reducible rfl
       rotate_left
       ·simp only [Act.put, List.setIfInBounds_toArray, List.set_cons_zero, List.set_cons_succ, i64_w, i32_w]
        rfl
       refine pure_ (i := 8) (N := some 242) (v := ?_) (a' := ?_) (tf 9 17) rfl rfl (any_of HT_.out (by kernel_rfl)) (fun _ _ _ h => h) (Or.inl ⟨by rfl, ?_⟩) ?_ ?_
       rotate_left
       ·intro w'
        go_simp
        with_reducible rfl
       rotate_left
       ·simp only [Act.put, List.setIfInBounds_toArray, List.set_cons_zero, List.set_cons_succ, i64_w, i32_w]
        rfl
       refine pure_ (i := 9) (N := some 243) (v := ?_) (a' := ?_) (tf 10 16) rfl rfl (any_of HT_.out (by kernel_rfl)) (fun _ _ _ h => h) (Or.inl ⟨by rfl, ?_⟩) ?_ ?_
       rotate_left
       ·intro w'
        go_simp
        with_reducible rfl
       rotate_left
       ·simp only [Act.put, List.setIfInBounds_toArray, List.set_cons_zero, List.set_cons_succ, i64_w, i32_w]
        rfl
       refine pure_ (i := 11) (N := some 245) (v := ?_) (a' := ?_) #[true, true, true, true, true, true, true, true, true, true, false, true, false, false, false, false, false, false, false, false, false, false, false, false, false, false] rfl rfl (any_of HT_.out (by kernel_rfl)) (fun _ _ _ h => h) (Or.inl ⟨by rfl, ?_⟩) ?_ ?_
       rotate_left
       ·intro w'
        go_simp
        with_reducible rfl
       rotate_left
       ·simp only [Act.put, List.setIfInBounds_toArray, List.set_cons_zero, List.set_cons_succ, i64_w, i32_w]
        rfl
       refine one_ (i := 10) (N := some 244) (tf 12 14) rfl rfl (one_of HT_.out (by kernel_rfl)) (by decide) (fun K hK => ?_)
       refine goes_ Try.func57 (by kernel_rfl) rfl #[ptr g, .bool true] (by rfl) rfl rfl (by simp only [List.map_toArray, List.map_cons, List.map_nil]; rfl) ?_
       have hmt := store_Made.calls true H2r.out
       rw [HM1.out] at hmt
       refine hmt.mono ?_
       clear hmt
       rintro e w9 ⟨rfl, hb9⟩
       refine ⟨_, rfl, ?_⟩
       have HB9 := Aside0.mk (below_step HB2.out hb9); have H9 := Aside0.mk (H2r.out.below hb9); have HU9 := Aside0.mk (SV.below HU2r.out hb9)
       refine hK.out _ _ ((blkB hHeld hb9)) (fun hHeld => ?_)
       clear hK K
       refine norm_ (a' := ?_) ?_ ?_
       rotate_left
       ·show Act.put _ (some 244) _ = _
        simp only [Act.put, List.setIfInBounds_toArray, List.set_cons_zero, List.set_cons_succ, i64_w, i32_w]
        rfl
       refine pure_ (i := 12) (N := some 246) (v := ?_) (a' := ?_) (tf 13 13) rfl rfl (any_of HT_.out (by kernel_rfl)) (fun _ _ _ h => h) (Or.inl ⟨by rfl, ?_⟩) ?_ ?_
       rotate_left
       ·intro w'
        go_simp
        with_reducible rfl
       rotate_left
       ·simp only [Act.put, List.setIfInBounds_toArray, List.set_cons_zero, List.set_cons_succ, i64_w, i32_w]
        rfl
       refine pure_ (i := 13) (N := some 247) (v := ?_) (a' := ?_) (tf 14 12) rfl rfl (any_of HT_.out (by kernel_rfl)) (fun _ _ _ h => h) (Or.inl ⟨by rfl, ?_⟩) ?_ ?_
       rotate_left
       ·intro w'
        go_simp
        with_reducible rfl
       rotate_left
       ·simp only [Act.put, List.setIfInBounds_toArray, List.set_cons_zero, List.set_cons_succ, i64_w, i32_w]
        rfl
       refine pure_ (i := 14) (N := some 248) (v := ?_) (a' := ?_) (tf 15 11) rfl rfl (any_of HT_.out (by kernel_rfl)) (fun _ _ _ h => h) (Or.inl ⟨by rfl, ?_⟩) ?_ ?_
       rotate_left
       ·intro w'
        go_simp
        with_reducible rfl
       rotate_left
       ·simp only [Act.put, List.setIfInBounds_toArray, List.set_cons_zero, List.set_cons_succ, i64_w, i32_w]
        rfl
       refine pure_ (i := 15) (N := some 249) (v := ?_) (a' := ?_) (tf 16 10) rfl rfl (any_of HT_.out (by kernel_rfl)) (fun _ _ _ h => h) (Or.inl ⟨by rfl, ?_⟩) ?_ ?_
       rotate_left
       ·intro w'
        go_simp
        with_reducible rfl
       rotate_left
       ·simp only [Act.put, List.setIfInBounds_toArray, List.set_cons_zero, List.set_cons_succ, i64_w, i32_w]
        rfl
       refine pure_ (i := 17) (N := some 251) (v := ?_) (a' := ?_) #[true, true, true, true, true, true, true, true, true, true, true, true, true, true, true, true, false, true, false, false, false, false, false, false, false, false] rfl rfl (any_of HT_.out (by kernel_rfl)) (fun _ _ _ h => h) (Or.inl ⟨by rfl, ?_⟩) ?_ ?_
       rotate_left
       ·intro w'
        go_simp
        with_reducible rfl
       rotate_left
       ·simp only [Act.put, List.setIfInBounds_toArray, List.set_cons_zero, List.set_cons_succ, i64_w, i32_w]
        rfl
       refine pure_ (i := 18) (N := some 252) (v := ?_) (a' := ?_) #[true, true, true, true, true, true, true, true, true, true, true, true, true, true, true, true, false, true, true, false, false, false, false, false, false, false] rfl rfl (any_of HT_.out (by kernel_rfl)) (fun _ _ _ h => h) (Or.inl ⟨by rfl, ?_⟩) ?_ ?_
       rotate_left
       ·intro w'
        go_simp
        with_reducible rfl
       rotate_left
       ·simp only [Act.put, List.setIfInBounds_toArray, List.set_cons_zero, List.set_cons_succ, i64_w, i32_w]
        rfl
       refine pure_ (i := 19) (N := some 253) (v := ?_) (a' := ?_) #[true, true, true, true, true, true, true, true, true, true, true, true, true, true, true, true, false, true, true, true, false, false, false, false, false, false] rfl rfl (any_of HT_.out (by kernel_rfl)) (fun _ _ _ h => h) (Or.inl ⟨by rfl, ?_⟩) ?_ ?_
       rotate_left
       ·intro w'
        go_simp
        with_reducible rfl
       rotate_left
       ·simp only [Act.put, List.setIfInBounds_toArray, List.set_cons_zero, List.set_cons_succ, i64_w, i32_w]
        rfl
       refine pure_ (i := 22) (N := some 256) (v := ?_) (a' := ?_) #[true, true, true, true, true, true, true, true, true, true, true, true, true, true, true, true, false, true, true, true, false, false, true, false, false, false] rfl rfl (any_of HT_.out (by kernel_rfl)) (fun _ _ _ h => h) (Or.inl ⟨by rfl, ?_⟩) ?_ ?_
       rotate_left
       ·intro w'
        go_simp
        with_reducible rfl
       rotate_left
       ·simp only [Act.put, List.setIfInBounds_toArray, List.set_cons_zero, List.set_cons_succ, i64_w, i32_w]
        rfl
       refine take_ (i := 20) (N := some 254) (v := ?_) (a' := ?_) #[true, true, true, true, true, true, true, true, true, true, true, true, true, true, true, true, false, true, true, true, true, false, true, false, false, false] rfl rfl (take_ofW HT_.out HW_.out (by kernel_rfl)) (fun _ _ _ h => h) (Or.inl ⟨by rfl, ?_⟩) hHeld ?_ ?_
       rotate_left
       ·intro w' s0
        obtain ⟨z0, z1, z2, -, -, -⟩ := bk3 s0
        go_simp
        with_reducible rfl
       rotate_left
       ·simp only [Act.put, List.setIfInBounds_toArray, List.set_cons_zero, List.set_cons_succ, i64_w, i32_w]
        rfl
       refine pure_ (i := 21) (N := some 255) (v := ?_) (a' := ?_) #[true, true, true, true, true, true, true, true, true, true, true, true, true, true, true, true, false, true, true, true, true, true, true, false, false, false] rfl rfl (any_of HT_.out (by kernel_rfl)) (fun _ _ _ h => h) (Or.inl ⟨by rfl, ?_⟩) ?_ ?_
       rotate_left
       ·intro w'
        go_simp
        with_reducible rfl
       rotate_left
       ·simp only [Act.put, List.setIfInBounds_toArray, List.set_cons_zero, List.set_cons_succ, i64_w, i32_w]
        rfl
       refine pure_ (i := 23) (N := some 257) (v := ?_) (a' := ?_) #[true, true, true, true, true, true, true, true, true, true, true, true, true, true, true, true, false, true, true, true, true, true, true, true, false, false] rfl rfl (any_of HT_.out (by kernel_rfl)) (fun _ _ _ h => h) (Or.inl ⟨by rfl, ?_⟩) ?_ ?_
       rotate_left
       ·intro w'
        go_simp
        with_reducible rfl
       rotate_left
       ·simp only [Act.put, List.setIfInBounds_toArray, List.set_cons_zero, List.set_cons_succ, i64_w, i32_w]
        rfl
       refine one_ (i := 16) (N := some 250) (tf 24 2) rfl rfl (one_of HT_.out (by kernel_rfl)) (by decide) (fun K hK => ?_)
       refine goes_ Try.func57 (by kernel_rfl) rfl #[ptr g, .bool false] (by rfl) rfl rfl (by simp only [List.map_toArray, List.map_cons, List.map_nil]; rfl) ?_
       have hmt := store_Made.calls false H9.out
       rw [HM2.out] at hmt
       refine hmt.mono ?_
       clear hmt
       rintro e w10 ⟨rfl, hb10⟩
       refine ⟨_, rfl, ?_⟩
       have HBf := Aside0.mk (below_step HB9.out hb10); have Hf := Aside0.mk (H9.out.below hb10); have HUf := Aside0.mk (SV.below HU9.out hb10)
       refine hK.out _ _ ((blkB hHeld hb10)) (fun hHeld => ?_)
       clear hK K
       refine norm_ (a' := ?_) ?_ ?_
       rotate_left
       ·show Act.put _ (some 250) _ = _
        simp only [Act.put, List.setIfInBounds_toArray, List.set_cons_zero, List.set_cons_succ, i64_w, i32_w]
        rfl
       refine pure_ (i := 24) (N := some 258) (v := ?_) (a' := ?_) (tf 25 1) rfl rfl (any_of HT_.out (by kernel_rfl)) (fun _ _ _ h => h) (Or.inl ⟨by rfl, ?_⟩) ?_ ?_
       rotate_left
       ·intro w'
        go_simp
        with_reducible rfl
       rotate_left
       ·simp only [Act.put, List.setIfInBounds_toArray, List.set_cons_zero, List.set_cons_succ, i64_w, i32_w]
        rfl
       refine pure_ (i := 25) (N := some 259) (v := ?_) (a' := ?_) (tf 26 0) rfl rfl (any_of HT_.out (by kernel_rfl)) (fun _ _ _ h => h) (Or.inl ⟨by rfl, ?_⟩) ?_ ?_
       rotate_left
       ·intro w'
        go_simp
        with_reducible rfl
       rotate_left
       ·simp only [Act.put, List.setIfInBounds_toArray, List.set_cons_zero, List.set_cons_succ, i64_w, i32_w]
        rfl
       refine done_ (done_of HT_.out (by kernel_rfl)) ?_
       clear n1 n2 n3 n5 hwn HM1 HM2
       go_wp2
       go_roundw
       case rel => exact ⟨i + 1, fr, Lz, Fz, _, _, rfl, by go_num, by omega, HFz, HLz, HBf, Hf, HUf, HA7⟩
       case measure => simp [intOf]; omega
  ·as_aux_lemma =>
   have hlm : L.length ≤ 80 := by have := HL.out.1; have := HLN.out; omega
   have hfm : F.length ≤ 80 := by have := HL.out.2.1; have := HLN.out; omega
   have HOK := Aside0.mk HL.out.2.2.1
   obtain ⟨T, hT⟩ : ∃ T, T = Tq := ⟨_, rfl⟩
   rw [← hT] at Hq
   obtain ⟨U, hU⟩ : ∃ U, U = Uq := ⟨_, rfl⟩
   rw [← hU] at HUq
   clear hT hU HAq HFR HL
   obtain ⟨svU, lvU, fvU, sokU, lokU, fokU, hsu0, -⟩ := HUq.out
   obtain ⟨q0, q1, q2, -, -, -⟩ := bk3 hsu0.blk
   obtain ⟨Al, cl, el, -, hml⟩ := hsu0.list
   rw [L4_len] at el hml
   subst el
   clear hsu0
   go_wp2_with fail
   go_loopw [26, 27, 28, 29, 30, 31] (fun v26 _ _ _ _ _ wr => ∃ j : Nat, v26 = .int .i64 j ∧ j ≤ L.length ∧ Aside0 (Below w.heap.size w wr) ∧ Aside0 (SP wr base g l0 L F T) ∧ Aside0 (SW wr u u l0 L F U)) (fun v26 _ _ _ _ _ _ => L.length - (intOf v26).toNat)
   case atStart => exact ⟨0, rfl, Nat.zero_le _, HB, Hq, HUq⟩
   case round =>
    clear HB Hq HUq q0 q1 q2
    obtain ⟨j, rfl, hj, HBj, Hj, HUj⟩ := hrel
    obtain ⟨svU, lvU, fvU, sokU, lokU, fokU, hsu, -⟩ := HUj.out
    obtain ⟨q0, q1, q2, -, -, -⟩ := bk3 hsu.blk
    obtain ⟨Al, cl, el, hcl, hml⟩ := hsu.list
    rw [L4_len] at el hcl hml
    subst el
    by_cases hjl : j < L.length
    ·have hjli : (j : Int) < (L.length : Int) := by omega
     obtain ⟨adL, clL, A1', c1', hA, -, p2, pf, -, p3, p4, p5⟩ := hsu.elem (j : Int) (by omega) (by rw [L4_len]; omega)
     rw [L4_len] at hA
     cases hA
     rw [rdU_L4 hjl] at p2 pf p3 p4 p5
     obtain ⟨o, ho⟩ : ∃ o, o = rdS L (j : Int) := ⟨_, rfl⟩
     have HOO := Aside0.mk ho
     rw [← ho] at p2 pf
     obtain ⟨o0, o1, o2⟩ := HOK.out.all _ (rdS_mem hjl)
     rw [← ho] at o0 o1 o2
     obtain ⟨m, hm'⟩ : ∃ m : Nat, o.1 = m := ⟨o.1.toNat, by omega⟩
     have e21 : (mkU F o).1 = o.1 := rfl
     have e22 : (mkU F o).2.1 = o.2.1 := rfl
     rw [e21] at p2
     rw [e22] at pf
     rw [hm'] at o1 o2 p2
     simp only [Int.toNat_natCast] at p2 pf
     obtain ⟨y, hy⟩ : ∃ y, y = rd_T43 l0 (m : Int) := ⟨_, rfl⟩
     obtain ⟨sd, B1, d1, e2, s0, s1, -, -⟩ := at_T43 (Kd.C_below HR0.out HBj.out) (m : Int) (by omega) (by omega)
     subst e2
     rw [← hy] at s0 o2
     simp only [Int.toNat_natCast] at s0
     obtain ⟨ff, hff⟩ : ∃ ff, ff = o.2.1 := ⟨_, rfl⟩
     rw [← hff] at pf
     have hij : isSt L ((j : Int) + 1) = true := decide_eq_true (by omega)
     have HOF : Aside0 (ofS l0 L ((j : Int) + 1) = y.f0) := ⟨by unfold ofS; rw [if_pos hij, show (j : Int) + 1 - 1 = j by omega, ← ho, hm', ← hy]⟩
     have HFR : Aside0 (frameS L ((j : Int) + 1) = ff) := ⟨by unfold frameS; rw [if_pos hij, show (j : Int) + 1 - 1 = j by omega, ← ho, hff]⟩
     have HO2 : Aside0 (o.2.2.length ≤ 1000) := ⟨by rw [o2, hy]; exact HRS.out.fields _ (by unfold rd_T43; rw [getD_at _ _ (by omega)]; exact List.getElem_mem _)⟩
     have hw : IntKind.i64.wrap ((j : Int) + 1) = (j : Int) + 1 := by rw [IntKind.wrap_i64]; omega
     have n1 : (y.f0.toList != y.f0.toList) = false := bne_self_eq_false _
     have n2 : (ff != ff) = false := bne_self_eq_false _
     have hsm : l0.length ≤ 9223372036854775807 := by have := HRS.out.len; omega
     have HSU := Aside0.mk hsu
     clear ho hm' hy o2 s1 p3 p4 p5 hsu hff e21 e22 hij
     go_upto_region 44 with (fail)
     have HB2 := Aside0.mk (below_drew1 HBj.out)
     have H2r := Aside0.mk (Hj.out.below (below_drew1 (Below.refl _ _)))
     have HU2r := Aside0.mk (SV.below HUj.out (below_drew1 (Below.refl _ _)))
     have HSU2 := Aside0.mk (HSU.out.below (below_drew1 (Below.refl _ _)))
     have HP2 := Aside0.mk (pw_cell_below (below_drew1 (Below.refl _ _)) p2)
     have HPF := Aside0.mk (pw_cell_below (below_drew1 (Below.refl _ _)) pf)
     have HS0 := Aside0.mk (pw_cell_below (below_drew1 (Below.refl _ _)) s0)
     clear HBj Hj HUj p2 pf s0 q0 q1 q2 HSU
     refine start_ (n := 32) (S := fun w' => w'.heap[u]? = some (.cells #[svU, .slice (some adL) L.length cl, fvU] 92 (0, 0)) ∧ w'.cell? (adL.add (j * 4)) = some (.int .i64 m) ∧ w'.cell? ⟨(adL.add (j * 4)).block, (adL.add (j * 4)).off + 1, none⟩ = some (.int .i64 ff) ∧ w'.cell? (sd.add (m * 2)) = some (.string y.f0)) (ds := []) (tf 0 32) (by kernel_rfl) rfl rfl ⟨HSU2.out.blk, HP2.out, HPF.out, HS0.out⟩ (fun hHeld => ?_)
     refine with_tabW truantlaw12_StoreExact.tab44 truantlaw12_StoreExact.bits44 (fun HT_ HW_ => ?_)
     generalize wr.drew = w3a at HB2 H2r HU2r HSU2 HP2 HPF HS0 hHeld ⊢
     refine pure_ (i := 0) (N := some 269) (v := ?_) (a' := ?_) (tf 1 31) rfl rfl (any_of HT_.out (by kernel_rfl)) (fun _ _ _ h => h) (Or.inl ⟨by rfl, ?_⟩) ?_ ?_
     rotate_left
     ·intro w'
      go_simp
      with_reducible rfl
     rotate_left
     ·simp only [Act.put, List.setIfInBounds_toArray, List.set_cons_zero, List.set_cons_succ, i64_w, i32_w]
      rfl
     refine pure_ (i := 1) (N := some 270) (v := ?_) (a' := ?_) (tf 2 30) rfl rfl (any_of HT_.out (by kernel_rfl)) (fun _ _ _ h => h) (Or.inl ⟨by rfl, ?_⟩) ?_ ?_
     rotate_left
     ·intro w'
      go_simp
      with_reducible rfl
     rotate_left
     ·simp only [Act.put, List.setIfInBounds_toArray, List.set_cons_zero, List.set_cons_succ, i64_w, i32_w]
      rfl
     refine pure_ (i := 2) (N := some 271) (v := ?_) (a' := ?_) (tf 3 29) rfl rfl (any_of HT_.out (by kernel_rfl)) (fun _ _ _ h => h) (Or.inl ⟨by rfl, ?_⟩) ?_ ?_
     rotate_left
     ·intro w'
      go_simp
      with_reducible rfl
     rotate_left
     ·simp only [Act.put, List.setIfInBounds_toArray, List.set_cons_zero, List.set_cons_succ, i64_w, i32_w]
      rfl
     refine pure_ (i := 4) (N := some 273) (v := ?_) (a' := ?_) #[true, true, true, false, true, false, false, false, false, false, false, false, false, false, false, false, false, false, false, false, false, false, false, false, false, false, false, false, false, false, false, false] rfl rfl (any_of HT_.out (by kernel_rfl)) (fun _ _ _ h => h) (Or.inl ⟨by rfl, ?_⟩) ?_ ?_
     rotate_left
     ·intro w'
      go_simp
      with_reducible rfl
     rotate_left
     ·simp only [Act.put, List.setIfInBounds_toArray, List.set_cons_zero, List.set_cons_succ, i64_w, i32_w]
      rfl
     refine pure_ (i := 5) (N := some 274) (v := ?_) (a' := ?_) #[true, true, true, false, true, true, false, false, false, false, false, false, false, false, false, false, false, false, false, false, false, false, false, false, false, false, false, false, false, false, false, false] rfl rfl (any_of HT_.out (by kernel_rfl)) (fun _ _ _ h => h) (Or.inl ⟨by rfl, ?_⟩) ?_ ?_
     rotate_left
     ·intro w'
      go_simp
      with_reducible rfl
     rotate_left
     ·simp only [Act.put, List.setIfInBounds_toArray, List.set_cons_zero, List.set_cons_succ, i64_w, i32_w]
      rfl
     refine pure_ (i := 6) (N := some 275) (v := ?_) (a' := ?_) #[true, true, true, false, true, true, true, false, false, false, false, false, false, false, false, false, false, false, false, false, false, false, false, false, false, false, false, false, false, false, false, false] rfl rfl (any_of HT_.out (by kernel_rfl)) (fun _ _ _ h => h) (Or.inl ⟨by rfl, ?_⟩) ?_ ?_
     rotate_left
     ·intro w'
      go_simp
      with_reducible rfl
     rotate_left
     ·simp only [Act.put, List.setIfInBounds_toArray, List.set_cons_zero, List.set_cons_succ, i64_w, i32_w]
      rfl
     refine pure_ (i := 7) (N := some 276) (v := ?_) (a' := ?_) #[true, true, true, false, true, true, true, true, false, false, false, false, false, false, false, false, false, false, false, false, false, false, false, false, false, false, false, false, false, false, false, false] rfl rfl (any_of HT_.out (by kernel_rfl)) (fun _ _ _ h => h) (Or.inl ⟨by rfl, ?_⟩) ?_ ?_
     rotate_left
     ·intro w'
      go_simp
      with_reducible rfl
     rotate_left
     ·simp only [Act.put, List.setIfInBounds_toArray, List.set_cons_zero, List.set_cons_succ, i64_w, i32_w]
      rfl
     refine pure_ (i := 9) (N := some 278) (v := ?_) (a' := ?_) #[true, true, true, false, true, true, true, true, false, true, false, false, false, false, false, false, false, false, false, false, false, false, false, false, false, false, false, false, false, false, false, false] rfl rfl (any_of HT_.out (by kernel_rfl)) (fun _ _ _ h => h) (Or.inl ⟨by rfl, ?_⟩) ?_ ?_
     rotate_left
     ·intro w'
      go_simp
      with_reducible rfl
     rotate_left
     ·simp only [Act.put, List.setIfInBounds_toArray, List.set_cons_zero, List.set_cons_succ, i64_w, i32_w]
      rfl
     refine take_ (i := 8) (N := some 277) (v := ?_) (a' := ?_) #[true, true, true, false, true, true, true, true, true, true, false, false, false, false, false, false, false, false, false, false, false, false, false, false, false, false, false, false, false, false, false, false] rfl rfl (take_ofW HT_.out HW_.out (by kernel_rfl)) (fun _ _ _ h => h) (Or.inl ⟨by rfl, ?_⟩) hHeld ?_ ?_
     rotate_left
     ·rintro w' ⟨s0, s1, s2, s3⟩
      obtain ⟨z0, z1, z2, -, -, -⟩ := bk3 s0
      go_simp
      with_reducible rfl
     rotate_left
     ·simp only [Act.put, List.setIfInBounds_toArray, List.set_cons_zero, List.set_cons_succ, i64_w, i32_w]
      rfl
     refine pure_ (i := 10) (N := some 279) (v := ?_) (a' := ?_) #[true, true, true, false, true, true, true, true, true, true, true, false, false, false, false, false, false, false, false, false, false, false, false, false, false, false, false, false, false, false, false, false] rfl rfl (any_of HT_.out (by kernel_rfl)) (fun _ _ _ h => h) (Or.inl ⟨by rfl, ?_⟩) ?_ ?_
     rotate_left
     ·intro w'
      go_simp
      with_reducible rfl
     rotate_left
     ·simp only [Act.put, List.setIfInBounds_toArray, List.set_cons_zero, List.set_cons_succ, i64_w, i32_w]
      rfl
     refine pure_ (i := 11) (N := some 280) (v := ?_) (a' := ?_) #[true, true, true, false, true, true, true, true, true, true, true, true, false, false, false, false, false, false, false, false, false, false, false, false, false, false, false, false, false, false, false, false] rfl rfl (any_of HT_.out (by kernel_rfl)) (fun _ _ _ h => h) (Or.inl ⟨by rfl, ?_⟩) ?_ ?_
     rotate_left
     ·intro w'
      go_simp
      with_reducible rfl
     rotate_left
     ·simp only [Act.put, List.setIfInBounds_toArray, List.set_cons_zero, List.set_cons_succ, i64_w, i32_w]
      rfl
     refine take_ (i := 12) (N := some 281) (v := ?_) (a' := ?_) #[true, true, true, false, true, true, true, true, true, true, true, true, true, false, false, false, false, false, false, false, false, false, false, false, false, false, false, false, false, false, false, false] rfl rfl (take_ofW HT_.out HW_.out (by kernel_rfl)) (fun _ _ _ h => h) (Or.inl ⟨by rfl, ?_⟩) hHeld ?_ ?_
     rotate_left
     ·rintro w' ⟨s0, s1, s2, s3⟩
      go_simp
      with_reducible rfl
     rotate_left
     ·simp only [Act.put, List.setIfInBounds_toArray, List.set_cons_zero, List.set_cons_succ, i64_w, i32_w]
      rfl
     refine pure_ (i := 13) (N := some 282) (v := ?_) (a' := ?_) #[true, true, true, false, true, true, true, true, true, true, true, true, true, true, false, false, false, false, false, false, false, false, false, false, false, false, false, false, false, false, false, false] rfl rfl (any_of HT_.out (by kernel_rfl)) (fun _ _ _ h => h) (Or.inl ⟨by rfl, ?_⟩) ?_ ?_
     rotate_left
     ·intro w'
      go_simp
      with_reducible rfl
     rotate_left
     ·simp only [Act.put, List.setIfInBounds_toArray, List.set_cons_zero, List.set_cons_succ, i64_w, i32_w]
      rfl
     refine pure_ (i := 14) (N := some 283) (v := ?_) (a' := ?_) #[true, true, true, false, true, true, true, true, true, true, true, true, true, true, true, false, false, false, false, false, false, false, false, false, false, false, false, false, false, false, false, false] rfl rfl (any_of HT_.out (by kernel_rfl)) (fun _ _ _ h => h) (Or.inl ⟨by rfl, ?_⟩) ?_ ?_
     rotate_left
     ·intro w'
      go_simp
      with_reducible rfl
     rotate_left
     ·simp only [Act.put, List.setIfInBounds_toArray, List.set_cons_zero, List.set_cons_succ, i64_w, i32_w]
      rfl
     refine take_ (i := 15) (N := some 284) (v := ?_) (a' := ?_) #[true, true, true, false, true, true, true, true, true, true, true, true, true, true, true, true, false, false, false, false, false, false, false, false, false, false, false, false, false, false, false, false] rfl rfl (take_ofW HT_.out HW_.out (by kernel_rfl)) (fun _ _ _ h => h) (Or.inl ⟨by rfl, ?_⟩) hHeld ?_ ?_
     rotate_left
     ·rintro w' ⟨s0, s1, s2, s3⟩
      go_simp
      with_reducible rfl
     rotate_left
     ·simp only [Act.put, List.setIfInBounds_toArray, List.set_cons_zero, List.set_cons_succ, i64_w, i32_w]
      rfl
     refine one_ (i := 3) (N := some 272) (tf 16 16) rfl rfl (one_of HT_.out (by kernel_rfl)) (by decide) (fun K hK => ?_)
     refine goes_ Try.func55 (by kernel_rfl) rfl #[ptr g, .int .i64 ((j : Int) + 1)] (by rfl) rfl rfl (by simp only [List.map_toArray, List.map_cons, List.map_nil]; rfl) ?_
     have hof := store_Of.calls ((j : Int) + 1) H2r.out HOK.out
     rw [HOF.out] at hof
     refine hof.mono ?_
     clear hof
     rintro e w9 ⟨rfl, hb9⟩
     refine ⟨_, rfl, ?_⟩
     have HB9 := Aside0.mk (below_step HB2.out hb9); have H9 := Aside0.mk (H2r.out.below hb9); have HU9 := Aside0.mk (SV.below HU2r.out hb9)
     refine hK.out _ _ ⟨(blkB hHeld.1 hb9), (pw_cell_below hb9 hHeld.2.1), (pw_cell_below hb9 hHeld.2.2.1), (pw_cell_below hb9 hHeld.2.2.2)⟩ (fun hHeld => ?_)
     clear hK K
     refine norm_ (a' := ?_) ?_ ?_
     rotate_left
     ·show Act.put _ (some 272) _ = _
      simp only [Act.put, List.setIfInBounds_toArray, List.set_cons_zero, List.set_cons_succ, i64_w, i32_w]
      rfl
     refine pure_ (i := 16) (N := some 285) (v := ?_) (a' := ?_) (tf 17 15) rfl rfl (any_of HT_.out (by kernel_rfl)) (fun _ _ _ h => h) (Or.inl ⟨by rfl, ?_⟩) ?_ ?_
     rotate_left
     ·intro w'
      go_simp
      with_reducible rfl
     rotate_left
     ·simp only [Act.put, List.setIfInBounds_toArray, List.set_cons_zero, List.set_cons_succ, i64_w, i32_w]
      rfl
     refine pure_ (i := 17) (N := some 286) (v := ?_) (a' := ?_) (tf 18 14) rfl rfl (any_of HT_.out (by kernel_rfl)) (fun _ _ _ h => h) (Or.inl ⟨by rfl, ?_⟩) ?_ ?_
     rotate_left
     ·intro w'
      go_simp
      with_reducible rfl
     rotate_left
     ·simp only [Act.put, List.setIfInBounds_toArray, List.set_cons_zero, List.set_cons_succ, i64_w, i32_w]
      rfl
     refine pure_ (i := 18) (N := some 287) (v := ?_) (a' := ?_) (tf 19 13) rfl rfl (any_of HT_.out (by kernel_rfl)) (fun _ _ _ h => h) (Or.inl ⟨by rfl, ?_⟩) ?_ ?_
     rotate_left
     ·intro w'
      go_simp
      with_reducible rfl
     rotate_left
     ·simp only [Act.put, List.setIfInBounds_toArray, List.set_cons_zero, List.set_cons_succ, i64_w, i32_w]
      rfl
     refine pure_ (i := 19) (N := some 288) (v := ?_) (a' := ?_) (tf 20 12) rfl rfl (any_of HT_.out (by kernel_rfl)) (fun _ _ _ h => h) (Or.inl ⟨by rfl, ?_⟩) ?_ ?_
     rotate_left
     ·intro w'
      go_simp
      with_reducible rfl
     rotate_left
     ·simp only [Act.put, List.setIfInBounds_toArray, List.set_cons_zero, List.set_cons_succ, i64_w, i32_w]
      rfl
     refine pure_ (i := 20) (N := some 289) (v := ?_) (a' := ?_) (tf 21 11) rfl rfl (any_of HT_.out (by kernel_rfl)) (fun _ _ _ h => h) (Or.inl ⟨by rfl, ?_⟩) ?_ ?_
     rotate_left
     ·intro w'
      go_simp
      with_reducible rfl
     rotate_left
     ·simp only [Act.put, List.setIfInBounds_toArray, List.set_cons_zero, List.set_cons_succ, i64_w, i32_w]
      rfl
     refine pure_ (i := 22) (N := some 291) (v := ?_) (a' := ?_) #[true, true, true, true, true, true, true, true, true, true, true, true, true, true, true, true, true, true, true, true, true, false, true, false, false, false, false, false, false, false, false, false] rfl rfl (any_of HT_.out (by kernel_rfl)) (fun _ _ _ h => h) (Or.inl ⟨by rfl, ?_⟩) ?_ ?_
     rotate_left
     ·intro w'
      go_simp
      with_reducible rfl
     rotate_left
     ·simp only [Act.put, List.setIfInBounds_toArray, List.set_cons_zero, List.set_cons_succ, i64_w, i32_w]
      rfl
     refine pure_ (i := 23) (N := some 292) (v := ?_) (a' := ?_) #[true, true, true, true, true, true, true, true, true, true, true, true, true, true, true, true, true, true, true, true, true, false, true, true, false, false, false, false, false, false, false, false] rfl rfl (any_of HT_.out (by kernel_rfl)) (fun _ _ _ h => h) (Or.inl ⟨by rfl, ?_⟩) ?_ ?_
     rotate_left
     ·intro w'
      go_simp
      with_reducible rfl
     rotate_left
     ·simp only [Act.put, List.setIfInBounds_toArray, List.set_cons_zero, List.set_cons_succ, i64_w, i32_w]
      rfl
     refine pure_ (i := 24) (N := some 293) (v := ?_) (a' := ?_) #[true, true, true, true, true, true, true, true, true, true, true, true, true, true, true, true, true, true, true, true, true, false, true, true, true, false, false, false, false, false, false, false] rfl rfl (any_of HT_.out (by kernel_rfl)) (fun _ _ _ h => h) (Or.inl ⟨by rfl, ?_⟩) ?_ ?_
     rotate_left
     ·intro w'
      go_simp
      with_reducible rfl
     rotate_left
     ·simp only [Act.put, List.setIfInBounds_toArray, List.set_cons_zero, List.set_cons_succ, i64_w, i32_w]
      rfl
     refine pure_ (i := 26) (N := some 295) (v := ?_) (a' := ?_) #[true, true, true, true, true, true, true, true, true, true, true, true, true, true, true, true, true, true, true, true, true, false, true, true, true, false, true, false, false, false, false, false] rfl rfl (any_of HT_.out (by kernel_rfl)) (fun _ _ _ h => h) (Or.inl ⟨by rfl, ?_⟩) ?_ ?_
     rotate_left
     ·intro w'
      go_simp
      with_reducible rfl
     rotate_left
     ·simp only [Act.put, List.setIfInBounds_toArray, List.set_cons_zero, List.set_cons_succ, i64_w, i32_w]
      rfl
     refine take_ (i := 25) (N := some 294) (v := ?_) (a' := ?_) #[true, true, true, true, true, true, true, true, true, true, true, true, true, true, true, true, true, true, true, true, true, false, true, true, true, true, true, false, false, false, false, false] rfl rfl (take_ofW HT_.out HW_.out (by kernel_rfl)) (fun _ _ _ h => h) (Or.inl ⟨by rfl, ?_⟩) hHeld ?_ ?_
     rotate_left
     ·rintro w' ⟨s0, s1, s2, s3⟩
      obtain ⟨z0, z1, z2, -, -, -⟩ := bk3 s0
      go_simp
      with_reducible rfl
     rotate_left
     ·simp only [Act.put, List.setIfInBounds_toArray, List.set_cons_zero, List.set_cons_succ, i64_w, i32_w]
      rfl
     refine pure_ (i := 27) (N := some 296) (v := ?_) (a' := ?_) #[true, true, true, true, true, true, true, true, true, true, true, true, true, true, true, true, true, true, true, true, true, false, true, true, true, true, true, true, false, false, false, false] rfl rfl (any_of HT_.out (by kernel_rfl)) (fun _ _ _ h => h) (Or.inl ⟨by rfl, ?_⟩) ?_ ?_
     rotate_left
     ·intro w'
      go_simp
      with_reducible rfl
     rotate_left
     ·simp only [Act.put, List.setIfInBounds_toArray, List.set_cons_zero, List.set_cons_succ, i64_w, i32_w]
      rfl
     refine pure_ (i := 28) (N := some 297) (v := ?_) (a' := ?_) #[true, true, true, true, true, true, true, true, true, true, true, true, true, true, true, true, true, true, true, true, true, false, true, true, true, true, true, true, true, false, false, false] rfl rfl (any_of HT_.out (by kernel_rfl)) (fun _ _ _ h => h) (Or.inl ⟨by rfl, ?_⟩) ?_ ?_
     rotate_left
     ·intro w'
      go_simp
      with_reducible rfl
     rotate_left
     ·simp only [Act.put, List.setIfInBounds_toArray, List.set_cons_zero, List.set_cons_succ, i64_w, i32_w]
      rfl
     refine take_ (i := 29) (N := some 298) (v := ?_) (a' := ?_) #[true, true, true, true, true, true, true, true, true, true, true, true, true, true, true, true, true, true, true, true, true, false, true, true, true, true, true, true, true, true, false, false] rfl rfl (take_ofW HT_.out HW_.out (by kernel_rfl)) (fun _ _ _ h => h) (Or.inl ⟨by rfl, ?_⟩) hHeld ?_ ?_
     rotate_left
     ·rintro w' ⟨s0, s1, s2, s3⟩
      go_simp
      with_reducible rfl
     rotate_left
     ·simp only [Act.put, List.setIfInBounds_toArray, List.set_cons_zero, List.set_cons_succ, i64_w, i32_w]
      rfl
     refine one_ (i := 21) (N := some 290) (tf 30 2) rfl rfl (one_of HT_.out (by kernel_rfl)) (by decide) (fun K hK => ?_)
     refine goes_ Try.func56 (by kernel_rfl) rfl #[ptr g, .int .i64 ((j : Int) + 1)] (by rfl) rfl rfl (by simp only [List.map_toArray, List.map_cons, List.map_nil]; rfl) ?_
     have hof := store_Frame.calls ((j : Int) + 1) H9.out
     rw [HFR.out] at hof
     refine hof.mono ?_
     clear hof
     rintro e w10 ⟨rfl, hb10⟩
     refine ⟨_, rfl, ?_⟩
     have HBf := Aside0.mk (below_step HB9.out hb10); have Hf := Aside0.mk (H9.out.below hb10); have HUf := Aside0.mk (SV.below HU9.out hb10)
     refine hK.out _ _ ⟨(blkB hHeld.1 hb10), (pw_cell_below hb10 hHeld.2.1), (pw_cell_below hb10 hHeld.2.2.1), (pw_cell_below hb10 hHeld.2.2.2)⟩ (fun hHeld => ?_)
     clear hK K
     refine norm_ (a' := ?_) ?_ ?_
     rotate_left
     ·show Act.put _ (some 290) _ = _
      simp only [Act.put, List.setIfInBounds_toArray, List.set_cons_zero, List.set_cons_succ, i64_w, i32_w]
      rfl
     refine pure_ (i := 30) (N := some 299) (v := ?_) (a' := ?_) (tf 31 1) rfl rfl (any_of HT_.out (by kernel_rfl)) (fun _ _ _ h => h) (Or.inl ⟨by rfl, ?_⟩) ?_ ?_
     rotate_left
     ·intro w'
      go_simp
      with_reducible rfl
     rotate_left
     ·simp only [Act.put, List.setIfInBounds_toArray, List.set_cons_zero, List.set_cons_succ, i64_w, i32_w]
      rfl
     refine pure_ (i := 31) (N := some 300) (v := ?_) (a' := ?_) (tf 32 0) rfl rfl (any_of HT_.out (by kernel_rfl)) (fun _ _ _ h => h) (Or.inl ⟨by rfl, ?_⟩) ?_ ?_
     rotate_left
     ·intro w'
      go_simp
      with_reducible rfl
     rotate_left
     ·simp only [Act.put, List.setIfInBounds_toArray, List.set_cons_zero, List.set_cons_succ, i64_w, i32_w]
      rfl
     refine done_ (done_of HT_.out (by kernel_rfl)) ?_
     clear n1 n2 HP2 HPF HS0 HSU2
     obtain ⟨svV, lvV, fvV, _, _, _, hsv0, -⟩ := HUf.out
     obtain ⟨q0, q1, q2, -, -, -⟩ := bk3 hsv0.blk
     obtain ⟨adV, clV, A3', c3', hA, -, -, -, -, p3, -, -⟩ := hsv0.elem (j : Int) (by omega) (by rw [L4_len]; omega)
     rw [L4_len] at hA
     subst hA
     clear hsv0
     go_wp2_with fail
     go_loopw [27, 28, 29, 30, 31] (fun v27 _ _ _ _ wr => ∃ q : Nat, v27 = .int .i64 q ∧ q ≤ o.2.2.length ∧ Aside0 (Below w.heap.size w wr) ∧ Aside0 (SP wr base g l0 L F T) ∧ Aside0 (SW wr u u l0 L F U)) (fun v27 _ _ _ _ _ => o.2.2.length - (intOf v27).toNat)
     case atStart => exact ⟨0, rfl, Nat.zero_le _, HBf, Hf, HUf⟩
     case round =>
      clear HBf Hf HUf q0 q1 q2 p3
      obtain ⟨q, rfl, hq, HBq, Hq, HUq⟩ := hrel
      obtain ⟨svV, lvV, fvV, _, _, _, hsv0, -⟩ := HUq.out
      obtain ⟨q0, q1, q2, -, -, -⟩ := bk3 hsv0.blk
      obtain ⟨adV, clV, A3', c3', hA, hclV, -, -, -, p3, -, -⟩ := hsv0.elem (j : Int) (by omega) (by rw [L4_len]; omega)
      rw [L4_len] at hA
      subst hA
      rw [rdU_L4 hjl, ← HOO.out] at p3
      have e22 : (mkU F o).2.2.2 = o.2.2 := rfl
      rw [e22] at p3
      simp only [Int.toNat_natCast] at p3
      have hom : o.2.2.length ≤ 9223372036854775807 := by have := HO2.out; omega
      clear hsv0 e22
      by_cases hqo : q < o.2.2.length
      ·have hqoi : (q : Int) < (o.2.2.length : Int) := by omega
       go_wp2_with fail
       refine (store_Get.calls ((j : Int) + 1) (q : Int) Hq.out).mono ?_
       rintro e w7 ⟨rfl, hb7⟩
       have HB7 := Aside0.mk (below_step HBq.out hb7); have H7 := Aside0.mk (Hq.out.below hb7); have HU7 := Aside0.mk (SV.below HUq.out hb7)
       clear hb7 q0 q1 q2 p3 HBq Hq HUq
       go_wp2_with fail
       refine (ref12_Get.calls ((j : Int) + 1) (q : Int) HU7.out).mono ?_
       rintro e w8 ⟨rfl, hb8⟩
       have HB8 := Aside0.mk (below_step HB7.out hb8); have H8 := Aside0.mk (H7.out.below hb8); have HU8 := Aside0.mk (SV.below HU7.out hb8)
       clear hb8 HB7 H7 HU7
       have n1 : (getS L F ((j : Int) + 1) (q : Int) != getS L F ((j : Int) + 1) (q : Int)) = false := bne_self_eq_false _
       have n2 : (chkS L F ((j : Int) + 1) (q : Int) != chkS L F ((j : Int) + 1) (q : Int)) = false := bne_self_eq_false _
       go_wp2
       go_roundw
       case rel => exact ⟨q + 1, by go_num, by omega, HB8, H8, HU8⟩
       case measure => simp [intOf]; omega
      ·go_wp2
       go_roundw
       case rel => exact ⟨j + 1, by go_num, by omega, HBq, Hq, HUq⟩
       case measure => simp [intOf]; omega
    ·clear hsu
     obtain ⟨out, hcame, hcalls⟩ := reachS_calls A2 c2 l2 Hj.out HOK.out HRS.out (Kd.C_below HR2.out HBj.out) HC2.out (by have := HL2.out; omega)
     obtain ⟨r, hr⟩ : ∃ r, r = out.mergeSort fun x y => decide (x ≤ y) := ⟨_, rfl⟩
     have hlim : (List.replicate (L.length + 1) false).count false * (1000 + 1) + l2.length + 1000 < LIMR := by
      rw [List.count_replicate_self]
      have := HL2.out
      unfold LIMR
      omega
     obtain ⟨Wb, hrun, hbf⟩ := bfs_runG (isF := isSt L) (N := L.length) (nn := linkS l0 L F) (B := 1000) (fun x hx => isSt_in hx) (fun x _ => linkS_len L F HRS.out.fields x) _ l2 (List.replicate (L.length + 1) false) (Nat.le_refl _) hlim List.length_replicate
     have HRN := Aside0.mk (hrun _ (Nat.lt_succ_self _))
     have HSA : Aside0 (∀ x, isSt L x = true → (rdOf false Wb x = true ↔ x ∈ r)) := ⟨fun x hx => by rw [bg_same (nearS_linkS l0 L F) hcame hbf x hx, hr, List.mem_mergeSort]⟩
     have hwl : Wb.length = L.length + 1 := by rw [hbf.len, List.length_replicate]
     have HUP : Aside0 (r.Pairwise (· < ·)) := ⟨by rw [hr]; exact sort_up hcame.nodup⟩
     have HIS : Aside0 (∀ x ∈ r, isSt L x = true) := ⟨fun x hx => hcame.is x (by rw [hr, List.mem_mergeSort] at hx; exact hx)⟩
     have hrl : r.length ≤ 1000000000 := by rw [hr, List.length_mergeSort]; exact hcame.len
     rw [← hr] at hcalls
     have HCALL := Aside0.mk hcalls
     clear hcalls hcame hr hrun hbf hlim
     go_wp2_with fail
     refine HCALL.out.mono ?_
     rintro e w6 ⟨v6, rfl, hr6, hb6⟩
     obtain ⟨A4, c4, rfl, hc4, hC4⟩ := Kd.R_reads hr6
     have HB6 := Aside0.mk (below_step HBj.out hb6); have H6 := Aside0.mk (Hj.out.below hb6); have HU6 := Aside0.mk (SV.below HUj.out hb6); have HC4 := Aside0.mk hC4
     clear hr6 hb6 hc4 hC4 HCALL HBj Hj HUj q0 q1 q2
     go_wp2_with fail
     refine (ref12_Reach.calls _ A2 c2 l2 Wb HU6.out HOK.out HRS.out (Kd.C_below HR2.out HB6.out) HC2.out (by have := HL2.out; omega) HRN.out).mono ?_
     rintro e w7 ⟨v7, rfl, hr7, hb7⟩
     obtain ⟨A5, c5, rfl, hc5, hC5⟩ := Kd.R_reads hr7
     have HB7 := Aside0.mk (below_step HB6.out hb7); have H7 := Aside0.mk (H6.out.below hb7); have HU7 := Aside0.mk (SV.below HU6.out hb7); have HC7 := Aside0.mk (Kd.C_below HC4.out hb7); have HC5 := Aside0.mk hC5
     clear hr7 hb7 hc5 hC5 HB6 H6 HU6 HC4 HRN
     have HWL := Aside0.mk hwl
     have hwm : Wb.length ≤ 200000 := by omega
     clear hwl
     go_wp2_with fail
     go_loopw [34, 35] (fun v34 v35 wr => ∃ n i : Nat, v34 = .int .i64 n ∧ v35 = .int .i64 i ∧ 1 ≤ i ∧ i ≤ Wb.length ∧ n ≤ r.length ∧ Aside0 (CntI r n i) ∧ Aside0 (Below w.heap.size w wr) ∧ Aside0 (SP wr base g l0 L F T) ∧ Aside0 (SW wr u u l0 L F U) ∧ Aside0 ((Kd.int .i64).C wr A4 r.length r) ∧ Aside0 (Kd.bool.C wr A5 Wb.length Wb)) (fun _ v35 _ => Wb.length - (intOf v35).toNat)
     case atStart => exact ⟨0, 1, rfl, rfl, Nat.le_refl _, by have := HWL.out; omega, Nat.zero_le _, ⟨cnt_zero HIS.out⟩, HB7, H7, HU7, HC7, HC5⟩
     case round =>
      clear HB7 H7 HU7 HC7 HC5
      obtain ⟨n, i, rfl, rfl, hi1, hi2, hn, HCN, HBn, Hn, HUn, HCr, HCw⟩ := hrel
      by_cases hiw : i < Wb.length
      ·have hiwi : (i : Int) < (Wb.length : Int) := by omega
       obtain ⟨a5, e5, hw5⟩ := Kd.at_bool HCw.out (i : Int) (by omega) (by omega)
       subst e5
       simp only [Int.toNat_natCast] at hw5
       have hF : isSt L (i : Int) = true := decide_eq_true (by have := HWL.out; omega)
       cases hbit : rdOf false Wb (i : Int) with
       | false =>
        rw [hbit] at hw5
        have HC2n : Aside0 (CntI r n (i + 1)) := ⟨HCN.out.miss (fun hm => by rw [(HSA.out _ hF).mpr hm] at hbit; cases hbit)⟩
        clear hbit HCN
        go_wp2
        go_roundw
        case rel => exact ⟨n, i + 1, rfl, by go_num, by omega, by omega, hn, HC2n, HBn, Hn, HUn, HCr, HCw⟩
        case measure => simp [intOf]; omega
       | true =>
        rw [hbit] at hw5
        obtain ⟨hnr, hri⟩ := HCN.out.hit HUP.out ((HSA.out _ hF).mp hbit)
        have HC2n : Aside0 (CntI r (n + 1) (i + 1)) := ⟨HCN.out.next HUP.out hnr hri⟩
        obtain ⟨a4, e4, hx4⟩ := Kd.at_int HCr.out (n : Int) (by omega) (by omega)
        subst e4
        simp only [Int.toNat_natCast] at hx4
        rw [hri] at hx4
        have hnri : (n : Int) < (r.length : Int) := by omega
        have hge : decide ((n : Int) ≥ (r.length : Int)) = false := decide_eq_false (by omega)
        have n1 : ((i : Int) != (i : Int)) = false := bne_self_eq_false _
        clear hbit HCN hri
        go_wp2
        go_roundw
        case rel => exact ⟨n + 1, i + 1, by go_num, by go_num, by omega, by omega, by omega, HC2n, HBn, Hn, HUn, HCr, HCw⟩
        case measure => simp [intOf]; omega
      ·have hnr : n = r.length := HCN.out.all hn (fun x hx => by have := isSt_in (HIS.out x hx); have := HWL.out; omega)
       subst hnr
       clear HCN HCr HCw
       go_wp2_with fail
       refine (store_Open.calls Hn.out (by omega)).mono ?_
       rintro e w8 ⟨v8, rfl, hr8, hb8⟩
       obtain ⟨A8, c8, rfl, hc8, hC8⟩ := Kd.R_reads hr8
       have HB8 := Aside0.mk (below_step HBn.out hb8); have HU8 := Aside0.mk (SV.below HUn.out hb8); have HC8 := Aside0.mk hC8
       have hom := Kd.C_max hC8
       have HAT : Aside0 (∀ i : Nat, i < F.length → F.getD i false = true → (openTo F i).length < (openTo F F.length).length ∧ rd (openTo F F.length) ((openTo F i).length : Int) = (i : Int) + 1) := ⟨fun i hi hb => openTo_at F hb F.length hi⟩
       obtain ⟨ol, hol⟩ : ∃ ol, ol = openTo F F.length := ⟨_, rfl⟩
       rw [← hol] at HC8 HAT hom ⊢
       have HOL := Aside0.mk hol
       obtain ⟨svV, lvV, fvV, _, _, _, hsv0, -⟩ := HU8.out
       obtain ⟨q0, q1, q2, -, -, -⟩ := bk3 hsv0.blk
       obtain ⟨Af, cf, ef, -, hfmx, -⟩ := hsv0.frames
       subst ef
       clear hr8 hb8 hc8 hC8 HBn Hn HUn hol hsv0
       go_wp2_with fail
       go_loopw [37, 38] (fun v37 v38 wr => ∃ n i : Nat, v37 = .int .i64 n ∧ v38 = .int .i64 i ∧ i ≤ F.length ∧ Aside0 (n = (openTo F i).length) ∧ Aside0 (Below w.heap.size w wr) ∧ Aside0 (SW wr u u l0 L F U) ∧ Aside0 ((Kd.int .i64).C wr A8 ol.length ol)) (fun _ v38 _ => F.length - (intOf v38).toNat)
       case atStart => exact ⟨0, 0, rfl, rfl, Nat.zero_le _, ⟨rfl⟩, HB8, HU8, HC8⟩
       case round =>
        clear HB8 HU8 HC8 q0 q1 q2
        obtain ⟨n, i, rfl, rfl, hiF, HNL0, HBn, HUn, HCo⟩ := hrel
        obtain ⟨svV, lvV, fvV, _, _, _, hsv0, -⟩ := HUn.out
        obtain ⟨q0, q1, q2, -, -, -⟩ := bk3 hsv0.blk
        obtain ⟨Af, cf, ef, -, hfmx, hCf⟩ := hsv0.frames
        subst ef
        have HCF := Aside0.mk hCf
        clear hsv0 hCf
        by_cases hif : i < F.length
        ·have hifi : (i : Int) < (F.length : Int) := by omega
         obtain ⟨a5, e5, hw5⟩ := Kd.at_bool HCF.out (i : Int) (by omega) (by omega)
         subst e5
         simp only [Int.toNat_natCast] at hw5
         have erd : rdOf false F (i : Int) = F.getD i false := by unfold rdOf; rw [Int.toNat_natCast]
         rw [erd] at hw5
         cases hbit : F.getD i false with
         | false =>
          rw [hbit] at hw5
          have HNL : Aside0 (n = (openTo F (i + 1)).length) := ⟨by rw [openTo_next, hbit, if_neg (by decide), List.append_nil]; exact HNL0.out⟩
          clear hbit erd HNL0
          go_wp2
          go_roundw
          case rel => exact ⟨n, i + 1, rfl, by go_num, by omega, HNL, HBn, HUn, HCo⟩
          case measure => simp [intOf]; omega
         | true =>
          rw [hbit] at hw5
          obtain ⟨hnr, hri⟩ := HAT.out i hif hbit
          rw [← HNL0.out] at hnr hri
          have HNL : Aside0 (n + 1 = (openTo F (i + 1)).length) := ⟨by rw [openTo_next, hbit, if_pos rfl, List.length_append, ← HNL0.out]; rfl⟩
          clear HNL0
          obtain ⟨a4, e4, hx4⟩ := Kd.at_int HCo.out (n : Int) (by omega) (by omega)
          subst e4
          simp only [Int.toNat_natCast] at hx4
          rw [hri] at hx4
          have hnri : (n : Int) < (ol.length : Int) := by omega
          have hge : decide ((n : Int) ≥ (ol.length : Int)) = false := decide_eq_false (by omega)
          have n1 : ((i : Int) + 1 != (i : Int) + 1) = false := bne_self_eq_false _
          have hwi : IntKind.i64.wrap ((i : Int) + 1) = (i : Int) + 1 := by rw [IntKind.wrap_i64]; omega
          clear hbit erd hri
          go_wp2
          go_roundw
          case rel => exact ⟨n + 1, i + 1, by go_num, by go_num, by omega, HNL, HBn, HUn, HCo⟩
          case measure => simp [intOf]; omega
        ·have hie : i = F.length := by omega
         subst hie
         have hnl := HNL0.out
         rw [← HOL.out] at hnl
         subst hnl
         have n1 : ((r.length : Int) == (r.length : Int)) = true := beq_self_eq_true _
         have n2 : ((ol.length : Int) == (ol.length : Int)) = true := beq_self_eq_true _
         clear HCF HCo
         go_wp2
         go_ret
         exact ⟨rfl, HBn.out⟩
set_option maxRecDepth 100000 in
set_option maxHeartbeats 4000000 in
theorem truantlaw12_StoreExact.calls (k : Nat) (A0 : Option Addr) (c0 : Nat) (l0 : List (S43)) (A1 : Option Addr) (c1 : Nat) (l1 : List (S94)) (A2 : Option Addr) (c2 : Nat) (l2 : List Int) (r : Bool) (w : World) (hr0 : Kd.C k43 w A0 l0.length l0) (hc0 : l0.length ≤ c0) (hr1 : Kd.C k94 w A1 l1.length l1) (hc1 : l1.length ≤ c1) (hr2 : Kd.C (Kd.int .i64) w A2 l2.length l2) (hc2 : l2.length ≤ c2) (h : truantlaw12_StoreExact.f k l0 l1 l2 = some r) :
  Calls Try.prog 10 #[.slice A0 l0.length c0, .slice A1 l1.length c1, .slice A2 l2.length c2] w fun e w' => e = .returned (.bool r) ∧ Below w.heap.size w w' := by
 unfold truantlaw12_StoreExact.f at h
 obtain ⟨gr, hgr, h⟩ := Option.bind_eq_some_iff.mp h
 have HR0 := Aside0.mk hr0; have HC0 := Aside0.mk hc0
 cases gr with
 | true =>
  rw [if_pos rfl] at h
  obtain rfl := Option.some.inj h
  have HGR := Aside0.mk hgr
  clear h hgr hr0 hc0 hr1 hr2 hc2
  go_enter Try.func10, Try.ntmps10
  go_wp2_with fail
  refine (truantlaw12_awake.calls true w rfl).mono ?_
  rintro e w1 ⟨rfl, hb1⟩
  have HB1 := Aside0.mk hb1; clear hb1
  go_wp2_with fail
  refine (truantlaw12_great.calls k A0 c0 l0 true w1 (Kd.C_below HR0.out HB1.out) HC0.out HGR.out).mono ?_
  rintro e w2 ⟨rfl, hd2⟩
  have HB2 := Aside0.mk (below_step HB1.out hd2.below); clear hd2 HB1
  go_wp2
  go_ret
  exact ⟨rfl, HB2.out⟩
 | false =>
  rw [if_neg (by decide)] at h
  by_cases hl : (l1.length : Int) > 80
  ·rw [if_pos hl] at h
   obtain rfl := Option.some.inj h
   have HGR := Aside0.mk hgr
   have hdl : decide ((l1.length : Int) > 80) = true := decide_eq_true hl
   clear h hgr hr0 hc0 hr1 hr2 hc2
   go_enter Try.func10, Try.ntmps10
   go_wp2_with fail
   refine (truantlaw12_awake.calls true w rfl).mono ?_
   rintro e w1 ⟨rfl, hb1⟩
   have HB1 := Aside0.mk hb1; clear hb1
   go_wp2_with fail
   refine (truantlaw12_great.calls k A0 c0 l0 false w1 (Kd.C_below HR0.out HB1.out) HC0.out HGR.out).mono ?_
   rintro e w2 ⟨rfl, hd2⟩
   have HB2 := Aside0.mk (below_step HB1.out hd2.below); clear hd2 HB1
   go_wp2
   go_ret
   exact ⟨rfl, HB2.out⟩
  ·rw [if_neg hl] at h
   by_cases hl2 : (l2.length : Int) > 20
   ·rw [if_pos hl2] at h
    obtain rfl := Option.some.inj h
    have HGR := Aside0.mk hgr
    have hdl : decide ((l1.length : Int) > 80) = false := decide_eq_false hl
    have hdl2 : decide ((l2.length : Int) > 20) = true := decide_eq_true hl2
    clear h hgr hr0 hc0 hr1 hr2 hc2
    go_enter Try.func10, Try.ntmps10
    go_wp2_with fail
    refine (truantlaw12_awake.calls true w rfl).mono ?_
    rintro e w1 ⟨rfl, hb1⟩
    have HB1 := Aside0.mk hb1; clear hb1
    go_wp2_with fail
    refine (truantlaw12_great.calls k A0 c0 l0 false w1 (Kd.C_below HR0.out HB1.out) HC0.out HGR.out).mono ?_
    rintro e w2 ⟨rfl, hd2⟩
    have HB2 := Aside0.mk (below_step HB1.out hd2.below); clear hd2 HB1
    go_wp2
    go_ret
    exact ⟨rfl, HB2.out⟩
   ·rw [if_neg hl2] at h
    obtain ⟨⟨r1, r2⟩, hck, h⟩ := Option.bind_eq_some_iff.mp h
    obtain ⟨q, hrk, h⟩ := Option.bind_eq_some_iff.mp h
    by_cases hok : decB (RXs l0 (r1, r2) q) = true
    case neg => rw [if_neg hok] at h; cases h
    rw [if_pos hok] at h
    obtain rfl := Option.some.inj h
    obtain ⟨e, hrp1⟩ := decB_ofY hok
    subst e
    by_cases hz : r2 = 0
    ·subst hz
     exact StoreExact.there k A0 c0 l0 A1 c1 l1 A2 c2 l2 r1 w hr0 hc0 hr1 hc1 hr2 hc2 hgr hl hl2 hck hrk hrp1
    ·exact StoreExact.nil k A0 c0 l0 A1 c1 l1 A2 c2 l2 r1 r2 w hr0 hc0 hr1 hc1 hr2 hc2 hgr hl hl2 hck hrk (bne_iff_ne.mpr hz)
/-- What reads at type t reads as a value of kind K, of which Q holds. -/
structure Opens {α : Type} (P : Program) (t : TypeId) (K : Kd α) (Q : α → Prop) : Prop where
 out : ∀ {H : Type} {enc : TypeId × Value → H} {W : World} {base : Nat} {sp : Nat → Bool} {held : Bool} {fuel : Nat} {cs : List Value} {x : DataW H × List MemPlace},
  (∀ n ∈ x.1.weights P t, n ≤ reachBytes) → DataW.trod enc P W base sp held fuel t cs = some x → ∃ y, K.K W y cs ∧ Q y
section
variable {P : Program}
theorem opens_string {t : TypeId} (ht : P.underlying t = some .string) : Opens P t Kd.string (fun s => s.size ≤ 140737488351232) := by
 constructor
 intro H enc W base sp held fuel cs x hw h
 obtain ⟨s, rfl, rfl, hs⟩ : ∃ s : ByteArray, cs = [.string s] ∧ x = (.lit (.string s.data.toList), []) ∧ s.size ≤ maxLen := by
  cases fuel with
  | zero => simp [DataW.trod] at h
  | succ n =>
   unfold DataW.trod at h
   rw [ht] at h
   split at h <;> simp_all
 refine ⟨s, rfl, ?_⟩
 have := hw s.data.toList.length (by simp [DataW.weights])
 rw [Array.length_toList] at this
 exact this
theorem opens_int {t : TypeId} {q : IntKind} (ht : P.underlying t = some (.int q)) : Opens P t (Kd.int q) (fun n => (Lit.int q n).wf = true) := by
 constructor
 intro H enc W base sp held fuel cs x hw h
 obtain ⟨n, rfl, hs⟩ : ∃ n : Int, cs = [.int q n] ∧ (Lit.int q n).wf = true := by
  cases fuel with
  | zero => simp [DataW.trod] at h
  | succ n =>
   unfold DataW.trod at h
   rw [ht] at h
   split at h <;> simp_all
 exact ⟨n, rfl, hs⟩
theorem weights_all {H : Type} {e : TypeId} : ∀ {ds : List (DataW H)} {d : DataW H}, d ∈ ds → ∀ n ∈ d.weights P e, n ∈ DataW.weightsAll P e ds
 | d0 :: ds, d, hd, n, hn => by
  simp only [DataW.weightsAll, List.mem_append]
  rcases List.mem_cons.mp hd with rfl | h
  ·exact .inl hn
  ·exact .inr (weights_all h n hn)
theorem choose_list {α : Type} {p : Nat → α → Prop} : ∀ {n : Nat}, (∀ i, i < n → ∃ y, p i y) → ∃ ys : List α, ys.length = n ∧ ∀ i y, ys[i]? = some y → p i y
 | 0, _ => ⟨[], rfl, fun i y h => by simp at h⟩
 | n + 1, h => by
  obtain ⟨ys, hl, hy⟩ := choose_list (n := n) (fun i hi => h i (by omega))
  obtain ⟨y, hp⟩ := h n (by omega)
  refine ⟨ys ++ [y], by simp [hl], fun i z hz => ?_⟩
  by_cases hi : i < n
  ·rw [List.getElem?_append_left (by omega)] at hz
   exact hy i z hz
  ·have := (List.getElem?_eq_some_iff.mp hz).1
   simp at this
   have e : i = n := by omega
   subst e
   rw [List.getElem?_append_right (by omega)] at hz
   simp [hl] at hz
   subst hz
   exact hp
theorem opens_slice {α : Type} {t e : TypeId} {K : Kd α} {Q : α → Prop} (he : Opens P e K Q) (ht : P.underlying t = some (.slice e)) (hc : P.cellsOf e = K.sz) (bytes : Nat) (hb : P.bytesOf e = bytes) :
  Opens P t (Kd.slice e K) (fun l => l.length * bytes ≤ 140737488351232 ∧ ∀ x ∈ l, Q x) := by
 constructor
 intro H enc W base sp held fuel cs x hw h
 rcases Deep.open_slice ht h with ⟨rfl, rfl⟩ | ⟨a, len, cap, m, n, D, Pl, rfl, _, hl, hm, hmm, rfl, hel⟩
 ·exact ⟨[], ⟨none, 0, rfl, Nat.le_refl _, Kd.C_nil K W⟩, by simp, by simp⟩
 ·have hlm : len ≤ m := by rw [hmm]; split <;> omega
  have hw' : ∀ i, i < len → ∀ k ∈ (D i).weights P e, k ≤ reachBytes := fun i hi k hk => hw k (by
   simp only [DataW.weights, ht, List.mem_cons, List.mem_append]
   exact .inr (.inl (weights_all (List.mem_map.mpr ⟨i, by simpa using hi, rfl⟩) k hk)))
  obtain ⟨ys, hys, hY⟩ := choose_list (n := len) (p := fun i y => (∃ c, c.length = K.sz ∧ K.K W y c ∧ ∀ j u, c[j]? = some u → W.cell? (a.add (i * K.sz + j)) = some u) ∧ Q y) (fun i hi => by
   obtain ⟨c, h1, h2⟩ := hel i (by omega)
   obtain ⟨y, hy, hq⟩ := he.out (hw' i hi) h2
   obtain ⟨_, h3, h4⟩ := World.cells?_some h1
   rw [hc] at h3 h4
   refine ⟨y, ⟨c, h3, hy, fun j u hu => ?_⟩, hq⟩
   have hj : j < K.sz := by
    have := (List.getElem?_eq_some_iff.mp hu).1
    omega
   have h5 := h4 j hj
   rw [Addr.add_add] at h5
   rw [h5, hu])
  have hlen : len ≤ maxLen := by omega
  refine ⟨ys, ⟨some a, cap, by rw [hys], by omega, rfl, by rw [hys]; unfold maxLen at hlen; omega, fun _ => ⟨a, rfl, fun j p hj => (hY j p hj).1⟩⟩, ?_, ?_⟩
  ·have := hw ((((List.range len).map D).length + ((List.range (m - len)).map fun j => D (len + j)).length) * P.bytesOf e) (by simp [DataW.weights, ht])
   rw [hb] at this
   simp only [List.length_map, List.length_range] at this
   have h2 : len * bytes ≤ (len + (m - len)) * bytes := Nat.mul_le_mul_right _ (by omega)
   rw [hys]
   unfold reachBytes at this
   omega
  ·intro x hx
   obtain ⟨i, hi, rfl⟩ := List.mem_iff_getElem.mp hx
   exact (hY i _ (List.getElem?_eq_getElem hi)).2
/-- The fields from one on. -/
structure OpensF {α : Type} (P : Program) (fs : List Field) (off : Nat) (K : Kd α) (Q : α → Prop) : Prop where
 out : ∀ {H : Type} {enc : TypeId × Value → H} {W : World} {base : Nat} {sp : Nat → Bool} {held : Bool} {fuel : Nat} {cs : List Value} {xs : List (DataW H × List MemPlace)},
  cs.length = off + K.sz → (∀ n ∈ DataW.weightsEach P (fs.map (·.type)) (xs.map (·.1)), n ≤ reachBytes) → (fs.mapM fun f => DataW.trod enc P W base sp held fuel f.type ((cs.drop f.offset).take (P.cellsOf f.type))) = some xs → ∃ y, K.K W y (cs.drop off) ∧ Q y
theorem opensF_last {α : Type} {f : Field} {off t : Nat} {K : Kd α} {Q : α → Prop} (h : Opens P t K Q) (h0 : f.type = t) (hc : P.cellsOf t = K.sz) (ho : f.offset = off) : OpensF P [f] off K Q := by
 constructor
 intro H enc W base sp held fuel cs xs hl hw hm
 subst h0
 simp only [List.mapM_cons, List.mapM_nil, Option.pure_def, Option.bind_eq_bind, Option.bind_some] at hm
 obtain ⟨x, hx, hm⟩ := Option.bind_eq_some_iff.mp hm
 obtain rfl := Option.some.inj hm
 rw [hc, ho, List.take_of_length_le (by rw [List.length_drop]; omega)] at hx
 exact h.out (fun n hn => hw n (by simp [DataW.weightsEach, hn])) hx
theorem opensF_cons {α β : Type} {f : Field} {fs : List Field} {off t : Nat} {K : Kd α} {K1 : Kd β} {Q : α → Prop} {Q1 : β → Prop} (h : Opens P t K Q) (h0 : f.type = t) (hc : P.cellsOf t = K.sz) (ho : f.offset = off) (h1 : OpensF P fs (off + K.sz) K1 Q1) :
  OpensF P (f :: fs) off (Kd.pair K K1) (fun p => Q p.1 ∧ Q1 p.2) := by
 constructor
 intro H enc W base sp held fuel cs xs hl hw hm
 subst h0
 have hl : cs.length = off + (K.sz + K1.sz) := hl
 rw [List.mapM_cons] at hm
 simp only [Option.pure_def, Option.bind_eq_bind] at hm
 obtain ⟨x, hx, hm⟩ := Option.bind_eq_some_iff.mp hm
 obtain ⟨xs', hxs, hm⟩ := Option.bind_eq_some_iff.mp hm
 obtain rfl := Option.some.inj hm
 rw [hc, ho] at hx
 obtain ⟨y, hy, hq⟩ := h.out (fun n hn => hw n (by simp only [List.map_cons, DataW.weightsEach, List.mem_append]; exact .inl hn)) hx
 obtain ⟨z, hz, hq1⟩ := h1.out (by omega) (fun n hn => hw n (by simp only [List.map_cons, DataW.weightsEach, List.mem_append]; exact .inr hn)) hxs
 refine ⟨(y, z), ⟨(cs.drop off).take K.sz, cs.drop (off + K.sz), ?_, hy, hz⟩, hq, hq1⟩
 rw [← List.drop_drop, List.take_append_drop]
theorem opens_struct {α β : Type} {t : TypeId} {fs : Array Field} {K : Kd α} {Q : α → Prop} (ht : P.underlying t = some (.struct fs)) (h : OpensF P fs.toList 0 K Q) (hc : P.cellsOf t = K.sz) (g : β → α) (g' : α → β) (hg : ∀ y, g (g' y) = y) : Opens P t (Kd.iso K g) (fun x => Q (g x)) := by
 constructor
 intro H enc W base sp held fuel cs x hw hm
 cases fuel with
 | zero => simp [DataW.trod] at hm
 | succ n =>
  unfold DataW.trod at hm
  rw [ht] at hm
  simp only at hm
  split at hm
  ·rename_i hl
   obtain ⟨xs, hxs, rfl⟩ := Option.map_eq_some_iff.mp hm
   obtain ⟨y, hy, hq⟩ := h.out (cs := cs) (xs := xs) (by rw [hl, hc]; omega) (fun n hn => hw n (by simp only [DataW.weights, ht]; exact hn)) hxs
   exact ⟨g' y, by show K.K W (g (g' y)) cs; rw [hg]; simpa using hy, by show Q (g (g' y)); rw [hg]; exact hq⟩
  ·cases hm
theorem opens_struct' {α β : Type} {t : TypeId} {fs : Array Field} {K : Kd α} {Q : α → Prop} {k : Kd β} {WF : β → Prop} (g' : α → β) (g : β → α) (ht : P.underlying t = some (.struct fs)) (h : OpensF P fs.toList 0 K Q) (hc : P.cellsOf t = K.sz) (hk : k = Kd.iso K g) (hg : ∀ y, g (g' y) = y) (hQ : ∀ x, Q (g x) → WF x) : Opens P t k WF := by
 subst hk
 constructor
 intro H enc W base sp held fuel cs x hw hm
 obtain ⟨y, h1, h2⟩ := (opens_struct ht h hc g g' hg).out hw hm
 exact ⟨y, h1, hQ y h2⟩
end
def WF48 (x : S48) : Prop := ((fun s : ByteArray => s.size ≤ 140737488351232) x.f0) ∧ ((fun s : ByteArray => s.size ≤ 140737488351232) x.f1)
theorem opens48 : Opens Try.prog 48 k48 WF48 :=
 opens_struct' (fun p : (ByteArray) × (ByteArray) => (⟨p.1, p.2⟩ : S48)) (fun x : S48 => (x.f0, x.f1)) Try.underlying48 (opensF_cons (opens_string Try.underlying9) rfl (by kernel_rfl) rfl (opensF_last (opens_string Try.underlying9) rfl (by kernel_rfl) rfl)) (by kernel_rfl) rfl (fun _ => rfl) (fun _ h => h)
def WF43 (x : S43) : Prop := ((fun s : ByteArray => s.size ≤ 140737488351232) x.f0) ∧ ((fun l : List (S48) => l.length * 32 ≤ 140737488351232 ∧ ∀ x ∈ l, WF48 x) x.f1)
theorem opens43 : Opens Try.prog 43 k43 WF43 :=
 opens_struct' (fun p : (ByteArray) × (List (S48)) => (⟨p.1, p.2⟩ : S43)) (fun x : S43 => (x.f0, x.f1)) Try.underlying43 (opensF_cons (opens_string Try.underlying9) rfl (by kernel_rfl) rfl (opensF_last (opens_slice opens48 Try.underlying41 (by kernel_rfl) 32 (by kernel_rfl)) rfl (by kernel_rfl) rfl)) (by kernel_rfl) rfl (fun _ => rfl) (fun _ h => h)
def WF94 (x : S94) : Prop := ((fun n : Int => (Lit.int .i64 n).wf = true) x.f0) ∧ ((fun n : Int => (Lit.int .i64 n).wf = true) x.f1) ∧ ((fun s : ByteArray => s.size ≤ 140737488351232) x.f2) ∧ ((fun n : Int => (Lit.int .i64 n).wf = true) x.f3) ∧ ((fun n : Int => (Lit.int .i64 n).wf = true) x.f4) ∧ ((fun n : Int => (Lit.int .i64 n).wf = true) x.f5)
theorem opens94 : Opens Try.prog 94 k94 WF94 :=
 opens_struct' (fun p : (Int) × (Int) × (ByteArray) × (Int) × (Int) × (Int) => (⟨p.1, p.2.1, p.2.2.1, p.2.2.2.1, p.2.2.2.2.1, p.2.2.2.2.2⟩ : S94)) (fun x : S94 => (x.f0, x.f1, x.f2, x.f3, x.f4, x.f5)) Try.underlying94 (opensF_cons (opens_int Try.underlying3) rfl (by kernel_rfl) rfl (opensF_cons (opens_int Try.underlying3) rfl (by kernel_rfl) rfl (opensF_cons (opens_string Try.underlying9) rfl (by kernel_rfl) rfl (opensF_cons (opens_int Try.underlying3) rfl (by kernel_rfl) rfl (opensF_cons (opens_int Try.underlying3) rfl (by kernel_rfl) rfl (opensF_last (opens_int Try.underlying3) rfl (by kernel_rfl) rfl)))))) (by kernel_rfl) rfl (fun _ => rfl) (fun _ h => h)
noncomputable def StoreExact.Pure : Prop := ∀ (l0 : List (S43)) (l1 : List (S94)) (l2 : List Int), (fun l : List (S43) => l.length * 40 ≤ 140737488351232 ∧ ∀ x ∈ l, WF43 x) l0 → (fun l : List (S94) => l.length * 56 ≤ 140737488351232 ∧ ∀ x ∈ l, WF94 x) l1 → (fun l : List Int => l.length * 8 ≤ 140737488351232 ∧ ∀ x ∈ l, (fun n : Int => (Lit.int .i64 n).wf = true) x) l2 → ∃ k, truantlaw12_StoreExact.f k l0 l1 l2 = some true
def isS (l : List S43) (t : ByteArray) : Bool := t.toList == [105, 110, 116] || (t.toList == [98, 111, 111, 108] || (starB t && decide (0 ≤ findR (nameIs (rest t)) l)))
theorem is_ev (l : List S43) (t : ByteArray) : Ev (fun k => kind_Is.f k l t) (isS l t) := by
 have jt : Ev (fun k => kind_Is.j0 k l t true) true := Ev.step (f := fun _ => some true) (fun k => rfl) (Ev.now _)
 unfold isS
 by_cases h1 : t.toList = [105, 110, 116]
 ·exact Ev.pos h1 (Ev.eq jt (by rw [h1]; rfl))
 ·refine Ev.neg h1 ?_
  rw [beq_eq_false_iff_ne.mpr h1, Bool.false_or]
  by_cases h2 : t.toList = [98, 111, 111, 108]
  ·rw [beq_iff_eq.mpr h2]; exact Ev.eq jt (by simp)
  ·rw [beq_eq_false_iff_ne.mpr h2, Bool.false_or]
   refine Ev.step (f := fun k => (strings_CutPrefix.f t (⟨#[42]⟩ : ByteArray)).bind fun bt118 => (if bt118.2 = true then ((kind_Find.f l bt118.1).bind fun bt120 => (some bt120.2)) else (some false))) (fun k => rfl) ?_
   rw [cutPrefix_one]
   cases hs : starB t with
   | false => exact Ev.now _
   | true =>
    refine Ev.eq (Ev.now _) ?_
    unfold placeOf
    by_cases h : findR (nameIs (rest t)) l < 0
    ·rw [if_pos rfl, if_pos h]
     simp; omega
    ·rw [if_pos rfl, if_neg h]
     simp; omega
theorem ris_ev (l : List S43) (t : ByteArray) (hm : l.length ≤ 9223372036854775807) : Ev (fun k => truantref03_Is.f k l t) (isS l t) := by
 unfold isS
 by_cases h1 : t.toList = [105, 110, 116]
 ·exact Ev.pos h1 (Ev.eq (Ev.now _) (by rw [h1]; rfl))
 ·refine Ev.neg h1 ?_
  rw [beq_eq_false_iff_ne.mpr h1, Bool.false_or]
  by_cases h2 : t.toList = [98, 111, 111, 108]
  ·refine Ev.pos h2 ?_
   rw [beq_iff_eq.mpr h2]; exact Ev.eq (Ev.now _) (by simp)
  ·refine Ev.neg h2 ?_
   rw [beq_eq_false_iff_ne.mpr h2, Bool.false_or]
   unfold starB
   by_cases h3 : 0 < t.size
   ·refine Ev.pos (by omega) (Ev.pos (by omega) ?_)
    by_cases h4 : bt t 0 = 42
    ·refine Ev.pos h4 (Ev.pos (by omega) (Ev.eq (Ev.bind (rfind_ev l (rest t) hm) (Ev.now _)) ?_))
     simp [h3, h4]
    ·refine Ev.neg h4 (Ev.eq (Ev.now _) ?_)
     rw [beq_eq_false_iff_ne.mpr h4]; simp
   ·refine Ev.neg (by omega) (Ev.eq (Ev.now _) ?_)
    simp [h3]
def fieldS (l : List S43) (ahead : List S48) (a b : ByteArray) : Int := if wordB a = true then (if 0 ≤ findR (fnameIs a) ahead then 6 else if isS l b = true then 0 else 7) else 1
theorem field_ev (l : List S43) (ahead : List S48) (a b : ByteArray) (ha : a.size ≤ 9223372036854775807) : Ev (fun k => kind_field.f k l ahead a b) (fieldS l ahead a b) := by
 refine Ev.bind (isWord_ev a ha) ?_
 unfold fieldS
 cases wordB a with
 | false => exact Ev.neg (by decide) (Ev.now _)
 | true =>
  refine Ev.pos rfl ?_
  rw [if_pos rfl]
  by_cases h : 0 ≤ findR (fnameIs a) ahead
  ·rw [if_pos h]; exact Ev.pos h (Ev.now _)
  ·rw [if_neg h]
   refine Ev.neg h (Ev.bind (is_ev l b) ?_)
   cases isS l b with
   | true => exact Ev.pos rfl (Ev.now _)
   | false => exact Ev.neg (by decide) (Ev.now _)
def fieldsD (l : List S43) (fs : List S48) : Nat → Nat → Int
 | 0, _ => 0
 | d + 1, j => if fieldS l (fs.take j) (fs.getD j z48).f0 (fs.getD j z48).f1 = 0 then fieldsD l fs d (j + 1) else fieldS l (fs.take j) (fs.getD j z48).f0 (fs.getD j z48).f1
def oneS (l : List S43) (i : Nat) : Int :=
 if wordB (l.getD i z43).f0 = true then (if findR (nameIs (l.getD i z43).f0) l < (i : Int) then 6 else if (l.getD i z43).f1.length > 8 then 4 else fieldsD l (l.getD i z43).f1 (l.getD i z43).f1.length 0) else 1
def checkD (l : List S43) : Nat → Nat → Int × Int
 | 0, _ => (0, 0)
 | d + 1, i => if oneS l i = 0 then checkD l d (i + 1) else ((i : Int), oneS l i)
def checkS (l : List S43) : Int × Int := if l.length > 12 then (0, 4) else checkD l l.length 0
/-- The sizes that came in. -/
structure Sz (l : List S43) : Prop where
 len : l.length ≤ 4398046511104
 fields : ∀ j : Nat, j < l.length → (l.getD j z43).f1.length ≤ 4398046511104
 names : ∀ j : Nat, j < l.length → (l.getD j z43).f0.size ≤ 140737488351232
 fnames : ∀ j q : Nat, j < l.length → q < (l.getD j z43).f1.length → ((l.getD j z43).f1.getD q z48).f0.size ≤ 140737488351232
 types : ∀ j q : Nat, j < l.length → q < (l.getD j z43).f1.length → ((l.getD j z43).f1.getD q z48).f1.size ≤ 140737488351232
theorem one_ev (l : List S43) (hl : Sz l) (i : Nat) (hi : i < l.length) : Ev (fun k => kind_one.f k l (i : Int)) (oneS l i) := by
 obtain ⟨x, hx⟩ : ∃ x, x = l.getD i z43 := ⟨_, rfl⟩
 have rx : rd_T43 l (i : Int) = x := by rw [hx]; rfl
 have hn := hl.names i hi
 have hf := hl.fields i hi
 have hfn := fun q => hl.fnames i q hi
 rw [← hx] at hn hf hfn
 refine Ev.pos (by omega) (Ev.pos (by omega) ?_)
 rw [rx]
 refine Ev.bind (isWord_ev x.f0 (by omega)) ?_
 unfold oneS
 rw [← hx]
 cases wordB x.f0 with
 | false => exact Ev.neg (by decide) (Ev.now _)
 | true =>
  refine Ev.pos rfl (Ev.one (a := kind_Find.f l x.f0) (b := placeOf (findR (nameIs x.f0) l)) rfl ?_)
  rw [if_pos rfl]
  have hp : 0 ≤ findR (nameIs x.f0) l ∧ (placeOf (findR (nameIs x.f0) l)).1 = findR (nameIs x.f0) l := by
   have hlt : l.findIdx (nameIs x.f0) < l.length := List.findIdx_lt_length_of_exists ⟨l[i], List.getElem_mem hi, by rw [← getD_at l z43 hi, ← hx]; unfold nameIs; simp⟩
   have h0 : 0 ≤ findR (nameIs x.f0) l := by unfold findR; rw [if_pos hlt]; omega
   exact ⟨h0, by unfold placeOf; rw [if_neg (by omega)]⟩
  rw [hp.2]
  by_cases h1 : findR (nameIs x.f0) l < (i : Int)
  ·rw [if_pos h1]; exact Ev.pos h1 (Ev.now _)
  ·rw [if_neg h1]
   refine Ev.neg h1 ?_
   by_cases h2 : x.f1.length > 8
   ·rw [if_pos h2]; exact Ev.pos (by omega) (Ev.now _)
   ·rw [if_neg h2]
    refine Ev.neg (by omega) ?_
    have key : ∀ (d j : Nat), j ≤ x.f1.length → x.f1.length - j = d → Ev (fun k => kind_one.l0 k l x.f1 (x.f1.length : Int) (j : Int) x.f0 x.f1) (fieldsD l x.f1 d j) := by
     intro d
     induction d with
     | zero => exact fun j h0 hd => Ev.step (fun k => rfl) (Ev.neg (by omega) (Ev.now _))
     | succ d ih =>
      intro j h0 hd
      refine Ev.step (fun k => rfl) (Ev.pos (by omega) (Ev.pos (by omega) (Ev.pos (by omega) (Ev.pos (by omega) ?_))))
      have rf : rd_T48 x.f1 (j : Int) = x.f1.getD j z48 := rfl
      rw [rf, Int.toNat_natCast]
      refine Ev.bind (field_ev l _ _ _ (by have := hfn j (by omega); omega)) ?_
      unfold fieldsD
      by_cases h3 : fieldS l (x.f1.take j) (x.f1.getD j z48).f0 (x.f1.getD j z48).f1 = 0
      ·rw [if_pos h3, wrap_succ (by omega) (by omega)]
       exact Ev.pos h3 (ih (j + 1) (by omega) (by omega))
      ·rw [if_neg h3]
       exact Ev.neg h3 (Ev.now _)
    exact key x.f1.length 0 (by omega) (by omega)
theorem check_ev (l : List S43) (hl : Sz l) : Ev (fun k => kind_Check.f k l) (checkS l) := by
 unfold checkS
 by_cases h : l.length > 12
 ·rw [if_pos h]; exact Ev.pos (by omega) (Ev.now _)
 ·rw [if_neg h]
  refine Ev.neg (by omega) ?_
  have key : ∀ (d i : Nat), i ≤ l.length → l.length - i = d → Ev (fun k => kind_Check.l0 k l (l.length : Int) (i : Int)) (checkD l d i) := by
   intro d
   induction d with
   | zero => exact fun i h0 hd => Ev.step (fun k => rfl) (Ev.neg (by omega) (Ev.now _))
   | succ d ih =>
    intro i h0 hd
    refine Ev.step (fun k => rfl) (Ev.pos (by omega) (Ev.bind (one_ev l hl i (by omega)) ?_))
    unfold checkD
    by_cases h3 : oneS l i = 0
    ·rw [if_pos h3, wrap_succ (by omega) (by omega)]
     exact Ev.pos h3 (ih (i + 1) (by omega) (by omega))
    ·rw [if_neg h3]
     exact Ev.neg h3 (Ev.now _)
  exact key l.length 0 (by omega) (by omega)
theorem findR_take_iff {α : Type} {p : α → Bool} {l : List α} {z : α} {k : Nat} (hk : k ≤ l.length) : 0 ≤ findR p (l.take k) ↔ ∃ j : Nat, j < k ∧ p (l.getD j z) = true := by
 unfold findR
 have hl : (l.take k).length = k := by rw [List.length_take]; omega
 constructor
 ·intro h
  split at h
  ·rename_i hlt
   have := List.findIdx_getElem (w := hlt)
   rw [List.getElem_take] at this
   exact ⟨(l.take k).findIdx p, by omega, by rw [getD_at l z (by omega)]; exact this⟩
  ·omega
 ·rintro ⟨j, hj, hp⟩
  have hlt : (l.take k).findIdx p < (l.take k).length := List.findIdx_lt_length_of_exists ⟨(l.take k)[j]'(by omega), List.getElem_mem _, by rw [List.getElem_take, ← getD_at l z (by omega)]; exact hp⟩
  rw [if_pos hlt]; omega
theorem rcheck_ev (l : List S43) (hl : Sz l) : Ev (fun k => truantref03_Check.f k l) (checkS l) := by
 unfold checkS
 have hll := hl.len
 by_cases h : l.length > 12
 ·rw [if_pos h]; exact Ev.pos (by omega) (Ev.now _)
 ·rw [if_neg h]
  refine Ev.neg (by omega) ?_
  have key : ∀ (d i : Nat), i ≤ l.length → l.length - i = d → Ev (fun k => truantref03_Check.l0 k l (i : Int)) (checkD l d i) := by
   intro d
   induction d with
   | zero => exact fun i h0 hd => Ev.step (fun k => rfl) (Ev.neg (by omega) (Ev.now _))
   | succ d ih =>
    intro i h0 hd
    obtain ⟨x, hx⟩ : ∃ x, x = l.getD i z43 := ⟨_, rfl⟩
    have rx : rd_T43 l (i : Int) = x := by rw [hx]; rfl
    have hf := hl.fields i (by omega)
    rw [← hx] at hf
    refine Ev.step (fun k => rfl) (Ev.pos (by omega) (Ev.pos (by omega) ?_))
    rw [rx]
    refine Ev.bind (rword_ev x.f0) ?_
    unfold checkD oneS
    rw [← hx]
    cases wordB x.f0 with
    | false => exact Ev.neg (by decide) (Ev.now _)
    | true =>
     refine Ev.pos rfl (Ev.bind (rfind_ev l x.f0 (by omega)) ?_)
     rw [if_pos rfl]
     by_cases h1 : findR (nameIs x.f0) l < (i : Int)
     ·rw [if_pos h1]; exact Ev.pos h1 (Ev.now _)
     ·rw [if_neg h1]
      refine Ev.neg h1 ?_
      by_cases h2 : x.f1.length > 8
      ·rw [if_pos h2]; exact Ev.pos (by omega) (Ev.now _)
      ·rw [if_neg h2]
       refine Ev.neg (by omega) ?_
       have hnext := ih (i + 1) (by omega) (by omega)
       have fk : ∀ (d2 j : Nat), j ≤ x.f1.length → x.f1.length - j = d2 → Ev (fun k => truantref03_Check.l1 k l (i : Int) (j : Int) x.f0 x.f1) (if fieldsD l x.f1 d2 j = 0 then checkD l d (i + 1) else ((i : Int), fieldsD l x.f1 d2 j)) := by
        intro d2
        induction d2 with
        | zero =>
         intro j hj hd2
         refine Ev.step (fun k => rfl) (Ev.neg (by omega) ?_)
         rw [wrap_succ (by omega) (by omega)]
         exact hnext
        | succ d2 ih2 =>
         intro j hj hd2
         have rf : rd_T48 x.f1 (j : Int) = x.f1.getD j z48 := rfl
         refine Ev.step (fun k => rfl) (Ev.pos (by omega) (Ev.pos (by omega) ?_))
         rw [rf]
         refine Ev.bind (rword_ev _) ?_
         unfold fieldsD fieldS
         cases wordB (x.f1.getD j z48).f0 with
         | false => exact Ev.neg (by decide) (Ev.eq (Ev.now _) (by simp))
         | true =>
          refine Ev.pos rfl ?_
          rw [if_pos rfl]
          have ek : ∀ (d3 m : Nat), m ≤ j → j - m = d3 → (∀ q : Nat, q < m → fnameIs (x.f1.getD j z48).f0 (x.f1.getD q z48) = false) → Ev (fun k => truantref03_Check.l2 k l (i : Int) (j : Int) (m : Int) x.f0 x.f1)
            (if (if 0 ≤ findR (fnameIs (x.f1.getD j z48).f0) (x.f1.take j) then (6 : Int) else if isS l (x.f1.getD j z48).f1 = true then 0 else 7) = 0 then (if fieldsD l x.f1 d2 (j + 1) = 0 then checkD l d (i + 1) else ((i : Int), fieldsD l x.f1 d2 (j + 1))) else ((i : Int), (if 0 ≤ findR (fnameIs (x.f1.getD j z48).f0) (x.f1.take j) then (6 : Int) else if isS l (x.f1.getD j z48).f1 = true then 0 else 7))) := by
           intro d3
           induction d3 with
           | zero =>
            intro m hm hd3 hall
            have hno : ¬ 0 ≤ findR (fnameIs (x.f1.getD j z48).f0) (x.f1.take j) := fun hh => by
             obtain ⟨q, hq, hp⟩ := (findR_take_iff (z := z48) (by omega)).mp hh
             rw [hall q (by omega)] at hp; cases hp
            rw [if_neg hno]
            refine Ev.step (fun k => rfl) (Ev.neg (by omega) (Ev.pos (by omega) (Ev.pos (by omega) ?_)))
            rw [rf]
            refine Ev.bind (ris_ev l _ (by omega)) ?_
            cases isS l (x.f1.getD j z48).f1 with
            | true =>
             refine Ev.pos rfl ?_
             rw [wrap_succ (by omega) (by omega)]
             exact ih2 (j + 1) (by omega) (by omega)
            | false => exact Ev.neg (by decide) (Ev.now _)
           | succ d3 ih3 =>
            intro m hm hd3 hall
            have rm : rd_T48 x.f1 (m : Int) = x.f1.getD m z48 := rfl
            refine Ev.step (fun k => rfl) (Ev.pos (by omega) (Ev.pos (by omega) (Ev.pos (by omega) (Ev.pos (by omega) (Ev.pos (by omega) ?_)))))
            rw [rf, rm]
            by_cases he : fnameIs (x.f1.getD j z48).f0 (x.f1.getD m z48) = true
            ·have hyes : 0 ≤ findR (fnameIs (x.f1.getD j z48).f0) (x.f1.take j) := (findR_take_iff (z := z48) (by omega)).mpr ⟨m, by omega, he⟩
             rw [if_pos hyes]
             exact Ev.pos (beq_iff_eq.mp he) (Ev.now _)
            ·refine Ev.neg (fun q => he (beq_iff_eq.mpr q)) ?_
             rw [wrap_succ (by omega) (by omega)]
             exact ih3 (m + 1) (by omega) (by omega) (all_succ (P := fun q => fnameIs (x.f1.getD j z48).f0 (x.f1.getD q z48) = false) hall (by simpa using he))
          have e0 := ek j 0 (by omega) (by omega) (fun q hq => absurd hq (by omega))
          refine Ev.eq e0 ?_
          generalize (if 0 ≤ findR (fnameIs (x.f1.getD j z48).f0) (x.f1.take j) then (6 : Int) else if isS l (x.f1.getD j z48).f1 = true then 0 else 7) = F
          by_cases hF : F = 0
          ·rw [if_pos hF, if_pos hF]
          ·rw [if_neg hF, if_neg hF, if_neg hF]
       exact fk x.f1.length 0 (by omega) (by omega)
  exact key l.length 0 (by omega) (by omega)
theorem great_l (l : List S43) (hl : l.length ≤ 16) (d : Nat) : ∀ i : Nat, i ≤ l.length → l.length - i = d → (∀ j : Nat, j < i → (l.getD j z43).f1.length ≤ 12) →
  ∃ b, Ev (fun k => truantlaw12_great.l0 k l (i : Int)) b ∧ (b = false → ∀ j : Nat, j < l.length → (l.getD j z43).f1.length ≤ 12) := by
 induction d with
 | zero =>
  intro i h0 hd h
  exact ⟨false, Ev.step (fun k => rfl) (Ev.neg (by omega) (Ev.now _)), fun _ j hj => h j (by omega)⟩
 | succ d ih =>
  intro i h0 hd h
  by_cases hg : (((rd_T43 l (i : Int)).f1).length : Int) > 12
  ·exact ⟨true, Ev.step (fun k => rfl) (Ev.pos (by omega) (Ev.pos (by omega) (Ev.pos hg (Ev.now _)))), fun e => by cases e⟩
  ·obtain ⟨b, hb, hb2⟩ := ih (i + 1) (by omega) (by omega) (all_succ h (by
    have e : rd_T43 l (i : Int) = l.getD i z43 := by unfold rd_T43; rw [Int.toNat_natCast]
    rw [← e]; omega))
   refine ⟨b, Ev.step (fun k => rfl) (Ev.pos (by omega) (Ev.pos (by omega) (Ev.neg hg ?_))), hb2⟩
   rw [wrap_succ (by omega) (by omega)]
   exact hb
theorem great_ev (l : List S43) : ∃ b, Ev (fun k => truantlaw12_great.f k l) b ∧ (b = false → l.length ≤ 16 ∧ ∀ x ∈ l, x.f1.length ≤ 12) := by
 unfold truantlaw12_great.f
 by_cases h : (l.length : Int) > 16
 ·exact ⟨true, Ev.pos h (Ev.now _), fun e => by cases e⟩
 ·obtain ⟨b, hb, hb2⟩ := great_l l (by omega) l.length 0 (by omega) (by omega) (fun j hj => by omega)
  refine ⟨b, Ev.neg h hb, fun e => ⟨by omega, fun x hx => ?_⟩⟩
  obtain ⟨j, hj, rfl⟩ := List.mem_iff_getElem.mp hx
  have := hb2 e j hj
  rwa [getD_at _ _ hj] at this
theorem sz_of {l : List S43} (h : l.length * 40 ≤ 140737488351232 ∧ ∀ x ∈ l, WF43 x) : Sz l where
 len := by omega
 fields := fun j hj => by
  have h1 := (h.2 _ (List.getElem_mem hj)).2.1
  rw [getD_at _ _ hj]
  have h2 : (l[j]).f1.length * 32 ≤ 140737488351232 := h1
  omega
 names := fun j hj => by
  rw [getD_at _ _ hj]
  exact (h.2 _ (List.getElem_mem hj)).1
 fnames := fun j q hj hq => by
  rw [getD_at _ _ hj] at hq ⊢
  rw [getD_at _ _ hq]
  exact ((h.2 _ (List.getElem_mem hj)).2.2 _ (List.getElem_mem hq)).1
 types := fun j q hj hq => by
  rw [getD_at _ _ hj] at hq ⊢
  rw [getD_at _ _ hq]
  exact ((h.2 _ (List.getElem_mem hj)).2.2 _ (List.getElem_mem hq)).2
theorem rs_ofX {l : List S43} (hz : Sz l) (h1 : l.length ≤ 16) (h2 : ∀ x ∈ l, x.f1.length ≤ 12) : RS l := by
 refine ⟨by omega, fun x hx => by have := h2 x hx; omega, fun x hx => ?_⟩
 obtain ⟨j, hj, rfl⟩ := List.mem_iff_getElem.mp hx
 obtain ⟨k, hk⟩ := (links_ev (l[j]).f0 (l[j]).f1 (by have := h2 _ hx; omega) (fun q hq => by
  have := hz.types j q hj (by rw [getD_at _ _ hj]; exact hq)
  rw [getD_at _ _ hj] at this
  omega)).rounds
 exact ⟨k, hk⟩
theorem StoreExact_pure : StoreExact.Pure := by
 intro l0 l1 l2 h0 _ _
 obtain ⟨b, hb, hb2⟩ := great_ev l0
 have hz := sz_of h0
 have hc := check_ev l0 hz
 have hr := rcheck_ev l0 hz
 have h : Ev (fun k => truantlaw12_StoreExact.f k l0 l1 l2) true := by
  unfold truantlaw12_StoreExact.f
  refine Ev.bind hb ?_
  cases b with
  | true => exact Ev.pos rfl (Ev.now _)
  | false =>
   obtain ⟨q1, q2⟩ := hb2 rfl
   refine Ev.neg (by decide) ?_
   by_cases hl : (l1.length : Int) > 80
   ·exact Ev.pos hl (Ev.now _)
   ·refine Ev.neg hl ?_
    by_cases hl2 : (l2.length : Int) > 20
    ·exact Ev.pos hl2 (Ev.now _)
    ·exact Ev.neg hl2 (Ev.bind hc (Ev.bind hr (Ev.pos (decB_true ⟨rfl, rs_ofX hz q1 q2⟩) (Ev.now _))))
 exact h.rounds
end Go.Proofs.Ytonmlncejikbiaa.Q
