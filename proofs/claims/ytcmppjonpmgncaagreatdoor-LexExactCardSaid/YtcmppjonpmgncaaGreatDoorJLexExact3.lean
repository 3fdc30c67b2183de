/- What the row of LexExact rests on, part 3: contracts of the functions that it reaches, and the plain law. -/
import Derived.Test.YtcmppjonpmgncaaGreatDoorJLexExact2
/- The document's Scan, told of lists of bytes. -/

namespace Go.Proofs.YtcmppjonpmgncaaGreatDoor.Q
open Go.RowKit Go.Proofs.YtcmppjonpmgncaaGreatDoorW.PrintWords Go.Proofs.YtcmppjonpmgncaaGreatDoorW.PrintLast Go.Proofs.YtcmppjonpmgncaaGreatDoorW.PrintMore
set_option linter.unusedVariables false
set_option linter.unusedSimpArgs false
abbrev Rk := S33
def rT (x : Tk) : Rk := ⟨x.f0, x.f1, x.f2⟩
theorem drop_cons (s : ByteArray) {i : Nat} {b : UInt8} {r : List UInt8} (h : b :: r = s.data.toList.drop i) : i < s.size ∧ bt s (i : Nat) = (b.toNat : Int) ∧ r = s.data.toList.drop (i + 1) := by
 have hl := congrArg List.length h
 rw [List.length_cons, List.length_drop, data_length] at hl
 have hi : i < s.size := by omega
 refine ⟨hi, ?_, ?_⟩
 ·rw [bt_nat s i hi]
  have h2 := List.drop_eq_getElem_cons (l := s.data.toList) (i := i) (by rw [data_length]; exact hi)
  rw [← h] at h2
  rw [(List.cons.inj h2).1]
 ·have h2 := List.drop_eq_getElem_cons (l := s.data.toList) (i := i) (by rw [data_length]; exact hi)
  rw [← h] at h2
  exact (List.cons.inj h2).2
theorem bl_cases {b : UInt8} : blB (b.toNat : Int) = true ↔ ((b.toNat : Int) = 32 ∨ (b.toNat : Int) = 9 ∨ (b.toNat : Int) = 10 ∨ (b.toNat : Int) = 13) := by unfold blB; exact decide_eq_true_iff
section
variable {R : List Rk × Int × Int} {acc : List Rk}
theorem r_blank (s : ByteArray) (hs : s.size ≤ 4096) {i : Nat} (hi : i < s.size) (hb : bt s (i : Nat) = 32 ∨ bt s (i : Nat) = 9 ∨ bt s (i : Nat) = 10 ∨ bt s (i : Nat) = 13) (h : Ev (fun k => truantref02_Scan.l0 k s acc ((i + 1 : Nat) : Int)) R) : Ev (fun k => truantref02_Scan.l0 k s acc (i : Int)) R := by
 have hw : wrap64 ((i : Int) + 1) = ((i + 1 : Nat) : Int) := by unfold wrap64; omega
 have hj : Ev (fun k => truantref02_Scan.j1 k s acc (i : Int) (bt s (i : Nat)) true) R := by
  refine Ev.step (f := fun k => truantref02_Scan.l0 k s acc (wrap64 ((i : Int) + 1))) (fun k => rfl) ?_
  rw [hw]; exact h
 refine Ev.step (fun k => rfl) (Ev.pos (by omega) (Ev.pos (by omega) ?_))
 by_cases h1 : bt s (i : Nat) = 32
 ·exact Ev.pos h1 hj
 ·refine Ev.neg h1 ?_
  by_cases h2 : bt s (i : Nat) = 9
  ·exact Ev.pos h2 hj
  ·refine Ev.neg h2 ?_
   by_cases h3 : bt s (i : Nat) = 10
   ·exact Ev.pos h3 hj
   ·refine Ev.neg h3 ?_
    rw [show (bt s (i : Nat) == 13) = true from beq_iff_eq.mpr (by omega)]
    exact hj
theorem r_plain (s : ByteArray) (hs : s.size ≤ 4096) {i : Nat} (hi : i < s.size) (hb : ¬ (bt s (i : Nat) = 32 ∨ bt s (i : Nat) = 9 ∨ bt s (i : Nat) = 10 ∨ bt s (i : Nat) = 13)) (h : Ev (fun k => truantref02_Scan.j1 k s acc (i : Int) (bt s (i : Nat)) false) R) : Ev (fun k => truantref02_Scan.l0 k s acc (i : Int)) R := by
 refine Ev.step (fun k => rfl) (Ev.pos (by omega) (Ev.pos (by omega) (Ev.neg (by omega) (Ev.neg (by omega) (Ev.neg (by omega) ?_)))))
 rw [show (bt s (i : Nat) == 13) = false from beq_eq_false_iff_ne.mpr (by omega)]
 exact h
theorem com_one (b : UInt8) : isCom [b] = false := by
 unfold isCom
 split
 ·rename_i h; injection h with _ h; cases h
 ·rfl
theorem com_two (b c : UInt8) (r : List UInt8) : isCom (b :: c :: r) = (b == 47 && c == 47) := by
 by_cases hb : b = 47
 ·by_cases hc : c = 47
  ·subst hb hc; rfl
  ·subst hb; unfold isCom; split <;> simp_all
 ·unfold isCom; split <;> simp_all
theorem nat_byte {b : UInt8} {n : UInt8} : (b.toNat : Int) = (n.toNat : Int) ↔ b = n := by
 constructor
 ·intro h; exact UInt8.toNat_inj.mp (by omega)
 ·rintro rfl; rfl
/-- Whether a comment begins there. -/
theorem r_j1 (s : ByteArray) (hs : s.size ≤ 4096) {l : List UInt8} {i : Nat} (hl : l = s.data.toList.drop i) (hne : l ≠ []) (h : Ev (fun k => truantref02_Scan.j2 k s acc (i : Int) (bt s (i : Nat)) (isCom l)) R) : Ev (fun k => truantref02_Scan.j1 k s acc (i : Int) (bt s (i : Nat)) false) R := by
 match l, hne with
 | [b], _ =>
  obtain ⟨hi, hb, hr⟩ := drop_cons s hl
  have hz := congrArg List.length hr
  rw [List.length_drop, data_length, List.length_nil] at hz
  have hw : wrap64 ((i : Int) + 1) = ((i + 1 : Nat) : Int) := by unfold wrap64; omega
  rw [com_one] at h
  refine Ev.step (f := fun k => if bt s (i : Nat) = 47 then _ else _) (fun k => by simp only [truantref02_Scan.j1, Bool.false_eq_true, if_false]; rfl) ?_
  by_cases h47 : bt s (i : Nat) = 47
  ·refine Ev.pos h47 ?_
   rw [hw]
   exact Ev.neg (by omega) h
  ·exact Ev.neg h47 h
 | b :: c :: r, _ =>
  obtain ⟨hi, hb, hr⟩ := drop_cons s hl
  obtain ⟨hi2, hc, _⟩ := drop_cons s hr
  have hw : wrap64 ((i : Int) + 1) = ((i + 1 : Nat) : Int) := by unfold wrap64; omega
  rw [com_two] at h
  refine Ev.step (f := fun k => if bt s (i : Nat) = 47 then _ else _) (fun k => by simp only [truantref02_Scan.j1, Bool.false_eq_true, if_false]; rfl) ?_
  by_cases h47 : bt s (i : Nat) = 47
  ·refine Ev.pos h47 ?_
   have hb47 : b = 47 := nat_byte.mp (show (b.toNat : Int) = ((47 : UInt8).toNat : Int) by rw [← hb, h47]; rfl)
   rw [hw]
   refine Ev.pos (by omega) (Ev.pos (by omega) ?_)
   have e : (bt s ((i + 1 : Nat) : Int) == 47) = (b == 47 && c == 47) := by
    rw [hc, hb47, Bool.eq_iff_iff]
    simp only [beq_iff_eq, beq_self_eq_true, Bool.true_and]
    exact nat_byte (n := 47)
   rw [e]
   exact h
  ·refine Ev.neg h47 ?_
   have hb47 : (b == 47) = false := beq_eq_false_iff_ne.mpr (fun e => h47 (by rw [hb, e]; rfl))
   rw [hb47] at h
   exact h
theorem r_l1 (s : ByteArray) (hs : s.size ≤ 4096) : ∀ (l : List UInt8) (i : Nat), l = s.data.toList.drop i → Ev (fun k => truantref02_Scan.l0 k s acc ((i + runP nlB l : Nat) : Int)) R → Ev (fun k => truantref02_Scan.l1 k s acc (i : Int)) R
 | [], i, hl, h => by
  have hz := congrArg List.length hl
  rw [List.length_drop, data_length, List.length_nil] at hz
  exact Ev.step (fun k => rfl) (Ev.neg (by omega) h)
 | b :: r, i, hl, h => by
  obtain ⟨hi, hb, hr⟩ := drop_cons s hl
  have hw : wrap64 ((i : Int) + 1) = ((i + 1 : Nat) : Int) := by unfold wrap64; omega
  refine Ev.step (fun k => rfl) (Ev.pos (by omega) (Ev.pos (by omega) ?_))
  rw [runP_cons] at h
  by_cases h10 : bt s (i : Nat) = 10
  ·rw [if_neg (by rw [← hb, h10]; decide)] at h
   exact Ev.pos h10 h
  ·rw [if_pos (by rw [← hb]; unfold nlB; exact bne_iff_ne.mpr h10)] at h
   refine Ev.neg h10 ?_
   rw [hw]
   refine r_l1 s hs r (i + 1) hr ?_
   rw [show i + 1 + runP nlB r = i + (runP nlB r + 1) by omega]
   exact h
theorem r_skip (s : ByteArray) (hs : s.size ≤ 4096) : ∀ (l : List UInt8) (i : Nat), l = s.data.toList.drop i → Ev (fun k => truantref02_Scan.l0 k s acc ((i + skipN l : Nat) : Int)) R → Ev (fun k => truantref02_Scan.l0 k s acc (i : Int)) R := by
 refine skip_ind ?_ ?_ ?_ ?_
 ·intro i _ h
  rw [skip_nil] at h
  exact h
 ·intro b r hB ih i hl h
  obtain ⟨hi, hb, hr⟩ := drop_cons s hl
  rw [skip_blank hB, show i + (1 + skipN r) = i + 1 + skipN r by omega] at h
  refine r_blank s hs hi ?_ (ih (i + 1) hr h)
  rw [hb]
  exact bl_cases.mp hB
 ·intro l hc ih i hl h
  obtain ⟨r, e⟩ := com_cases hc
  obtain ⟨hi, hb, _⟩ := drop_cons s (e ▸ hl)
  have hj := r_j1 (acc := acc) (R := R) s hs hl (by rw [e]; simp)
  rw [hc] at hj
  refine r_plain s hs hi (by rw [hb]; decide) (hj ?_)
  refine Ev.step (f := fun k => truantref02_Scan.l1 k s acc (i : Int)) (fun k => rfl) ?_
  refine r_l1 s hs l i hl (ih (i + runP nlB l) ?_ ?_)
  ·rw [hl, drop_drop', ← hl]
  ·rw [Nat.add_assoc, ← skip_com hc]
   exact h
 ·intro b r hB hc i _ h
  rw [skip_none hB hc] at h
  exact h
theorem skip_after : ∀ (l : List UInt8) (b : UInt8) (r : List UInt8), l.drop (skipN l) = b :: r → blB (b.toNat : Int) = false ∧ isCom (b :: r) = false := by
 refine skip_ind ?_ ?_ ?_ ?_
 ·intro b r h
  rw [skip_nil] at h
  cases h
 ·intro c m hB ih b r h
  rw [skip_blank hB, Nat.add_comm, List.drop_succ_cons] at h
  exact ih b r h
 ·intro l hc ih b r h
  rw [skip_com hc, ← List.drop_drop] at h
  exact ih b r h
 ·intro c m hB hc b r h
  rw [skip_none hB hc, List.drop_zero] at h
  obtain ⟨rfl, rfl⟩ := List.cons.inj h
  exact ⟨hB, hc⟩
theorem r_l2 (s : ByteArray) (hs : s.size ≤ 4096) (q : Int) : ∀ (l : List UInt8) (i : Nat), l = s.data.toList.drop i → Ev (fun k => truantref02_Scan.j5 k s acc q ((i + runP lodB l : Nat) : Int)) R → Ev (fun k => truantref02_Scan.l2 k s acc q (i : Int)) R
 | [], i, hl, h => by
  have hz := congrArg List.length hl
  rw [List.length_drop, data_length, List.length_nil] at hz
  exact Ev.step (fun k => rfl) (Ev.neg (by omega) h)
 | b :: r, i, hl, h => by
  obtain ⟨hi, hb, hr⟩ := drop_cons s hl
  have hw : wrap64 ((i : Int) + 1) = ((i + 1 : Nat) : Int) := by unfold wrap64; omega
  rw [runP_cons] at h
  have more : lodB (b.toNat : Int) = true → Ev (fun k => truantref02_Scan.l2 k s acc q (wrap64 ((i : Int) + 1))) R := fun hL => by
   rw [if_pos hL] at h
   rw [hw]
   refine r_l2 s hs q r (i + 1) hr ?_
   rw [show i + 1 + runP lodB r = i + (runP lodB r + 1) by omega]
   exact h
  refine Ev.step (fun k => rfl) (Ev.pos (by omega) (Ev.pos (by omega) (Ev.one (rletter _) ?_)))
  rw [hb]
  cases hL : letB (b.toNat : Int) with
  | true => exact Ev.pos rfl (more (let_lod _ hL))
  | false =>
   refine Ev.neg (by decide) (Ev.one (rdigit _) ?_)
   cases hD : digB (b.toNat : Int) with
   | true => exact Ev.pos rfl (more (by unfold lodB; rw [hD]; simp))
   | false =>
    rw [if_neg (by unfold lodB; rw [hL, hD]; decide)] at h
    exact Ev.neg (by decide) h
theorem r_l3 (s : ByteArray) (hs : s.size ≤ 4096) (q : Int) : ∀ (l : List UInt8) (i : Nat), l = s.data.toList.drop i → Ev (fun k => truantref02_Scan.j7 k s acc q ((i + runP digB l : Nat) : Int)) R → Ev (fun k => truantref02_Scan.l3 k s acc q (i : Int)) R
 | [], i, hl, h => by
  have hz := congrArg List.length hl
  rw [List.length_drop, data_length, List.length_nil] at hz
  exact Ev.step (fun k => rfl) (Ev.neg (by omega) h)
 | b :: r, i, hl, h => by
  obtain ⟨hi, hb, hr⟩ := drop_cons s hl
  have hw : wrap64 ((i : Int) + 1) = ((i + 1 : Nat) : Int) := by unfold wrap64; omega
  rw [runP_cons] at h
  refine Ev.step (fun k => rfl) (Ev.pos (by omega) (Ev.pos (by omega) (Ev.one (rdigit _) ?_)))
  rw [hb]
  cases hD : digB (b.toNat : Int) with
  | true =>
   rw [if_pos hD] at h
   refine Ev.pos rfl ?_
   rw [hw]
   refine r_l3 s hs q r (i + 1) hr ?_
   rw [show i + 1 + runP digB r = i + (runP digB r + 1) by omega]
   exact h
  | false =>
   rw [if_neg (by rw [hD]; decide)] at h
   exact Ev.neg (by decide) h
end
theorem ext_tok (s : ByteArray) {l t : List UInt8} {i : Nat} (hl : l = s.data.toList.drop i) (hp : t <+: l) : s.extract i (i + t.length) = bA t := by
 rw [← bA_of (s.extract i (i + t.length))]
 congr 1
 rw [ByteArray.data_extract, Array.toList_extract]
 simp only [List.extract, Nat.add_sub_cancel_left]
 rw [← hl]
 exact (List.prefix_iff_eq_take.mp hp).symm
/-! signs -/
def twoL : List (List UInt8) := [[60, 60], [62, 62], [61, 61], [33, 61], [60, 61], [62, 61], [38, 38], [124, 124], [58, 61]]
def oneL : List UInt8 := [43, 45, 42, 47, 37, 38, 124, 94, 60, 62, 33, 61, 46, 44, 59, 40, 41, 123, 125]
theorem findR_find {α : Type} (p : α → Bool) (l : List α) (z : α) : (findR p l < 0 ∧ l.find? p = none) ∨ (¬ findR p l < 0 ∧ l.find? p = some (l.getD (findR p l).toNat z)) := by
 unfold findR
 by_cases h : l.findIdx p < l.length
 ·right
  rw [if_pos h]
  refine ⟨by omega, ?_⟩
  rw [Int.toNat_natCast, getD_at _ _ h]
  have h2 := List.findIdx_getElem (w := h)
  rw [List.find?_eq_some_iff_getElem]
  exact ⟨h2, l.findIdx p, h, rfl, fun j hj => by simpa using List.not_of_lt_findIdx hj⟩
 ·left
  rw [if_neg h]
  refine ⟨by decide, ?_⟩
  rw [List.find?_eq_none]
  intro x hx hpx
  exact h (List.findIdx_lt_length_of_exists ⟨x, hx, hpx⟩)
theorem signK_find (l : List UInt8) : signK l = match signL.find? (isPre l) with
  | some x => (4, x.data.toList, 0)
  | none => (0, [], 1) := by
 unfold signK
 rcases findR_find (isPre l) signL ByteArray.empty with ⟨h1, h2⟩ | ⟨h1, h2⟩
 ·rw [if_pos h1, h2]
 ·rw [if_neg h1, h2]
theorem sign_parts : signL = (signL.take 9) ++ (signL.drop 9) := (List.take_append_drop 9 signL).symm
theorem twos : (signL.take 9).map (·.data.toList) = [[60, 60], [62, 62], [61, 61], [33, 61], [60, 61], [62, 61], [38, 38], [124, 124], [58, 61]] := rfl
theorem ones : (signL.drop 9).map (·.data.toList) = oneL.map (fun b => [b]) := rfl
theorem find_map {α β : Type} (f : α → β) (p : β → Bool) (l : List α) : (l.find? (fun x => p (f x))).map f = (l.map f).find? p := by
 induction l with
 | nil => rfl
 | cons a r ih =>
  rw [List.map_cons, List.find?_cons, List.find?_cons]
  cases p (f a) with
  | true => rfl
  | false => exact ih
theorem find_eq {α : Type} [BEq α] [LawfulBEq α] (a : α) (l : List α) : l.find? (fun x => x == a) = if a ∈ l then some a else none := by
 induction l with
 | nil => rfl
 | cons b r ih =>
  rw [List.find?_cons]
  by_cases h : b = a
  ·subst h; simp
  ·rw [show (b == a) = false from beq_eq_false_iff_ne.mpr h, ih]
   by_cases h2 : a ∈ r
   ·simp [h2]
   ·simp [h2, Ne.symm h]
theorem find_congr {α : Type} {p q : α → Bool} {l : List α} (h : ∀ x ∈ l, p x = q x) : l.find? p = l.find? q := by
 induction l with
 | nil => rfl
 | cons a r ih => rw [List.find?_cons, List.find?_cons, h a (List.mem_cons_self ..), ih (fun x hx => h x (List.mem_cons_of_mem _ hx))]
def signT (l : List UInt8) : Option (List UInt8) := (signL.map (·.data.toList)).find? (fun x => x.isPrefixOf l)
theorem signK_T (l : List UInt8) : signK l = match signT l with
  | some t => (4, t, 0)
  | none => (0, [], 1) := by
 rw [signK_find]
 unfold signT
 rw [← find_map (fun x : ByteArray => x.data.toList) (fun x => x.isPrefixOf l) signL]
 show _ = match (signL.find? (isPre l)).map (fun x : ByteArray => x.data.toList) with | some t => ((4 : Int), t, (0 : Int)) | none => ((0 : Int), ([] : List UInt8), (1 : Int))
 cases signL.find? (isPre l) <;> rfl
theorem pre_two {a b x y : UInt8} {r : List UInt8} : [x, y].isPrefixOf (a :: b :: r) = ([x, y] == [a, b]) := by
 simp [List.isPrefixOf]
theorem signT_two (a b : UInt8) (r : List UInt8) : signT (a :: b :: r) = if [a, b] ∈ twoL then some [a, b] else if a ∈ oneL then some [a] else none := by
 unfold signT
 rw [sign_parts, List.map_append, List.find?_append]
 have e1 : ((signL.take 9).map (·.data.toList)).find? (fun x => x.isPrefixOf (a :: b :: r)) = if [a, b] ∈ twoL then some [a, b] else none := by
  rw [twos, find_congr (q := fun x => x == [a, b])]
  ·exact find_eq [a, b] twoL
  ·intro x hx
   have : ∃ u v, x = [u, v] := by
    simp only [List.mem_cons, List.not_mem_nil, or_false] at hx
    rcases hx with h | h | h | h | h | h | h | h | h <;> exact ⟨_, _, h⟩
   obtain ⟨u, v, rfl⟩ := this
   exact pre_two
 have e2 : ((signL.drop 9).map (·.data.toList)).find? (fun x => x.isPrefixOf (a :: b :: r)) = if a ∈ oneL then some [a] else none := by
  rw [ones, ← find_map (fun b => [b]) (fun x => x.isPrefixOf (a :: b :: r)) oneL, find_congr (q := fun x => x == a)]
  ·rw [find_eq]
   by_cases h : a ∈ oneL <;> simp [h]
  ·intro x _
   simp [List.isPrefixOf]
 rw [e1, e2]
 by_cases h : [a, b] ∈ twoL
 ·rw [if_pos h, if_pos h]; rfl
 ·rw [if_neg h, if_neg h]; rfl
theorem signT_one (a : UInt8) : signT [a] = if a ∈ oneL then some [a] else none := by
 unfold signT
 rw [sign_parts, List.map_append, List.find?_append]
 have e1 : ((signL.take 9).map (·.data.toList)).find? (fun x => x.isPrefixOf [a]) = none := by
  rw [twos, List.find?_eq_none]
  intro x hx
  have : ∃ u v, x = [u, v] := by
   simp only [List.mem_cons, List.not_mem_nil, or_false] at hx
   rcases hx with h | h | h | h | h | h | h | h | h <;> exact ⟨_, _, h⟩
  obtain ⟨u, v, rfl⟩ := this
  simp [List.isPrefixOf]
 have e2 : ((signL.drop 9).map (·.data.toList)).find? (fun x => x.isPrefixOf [a]) = if a ∈ oneL then some [a] else none := by
  rw [ones, ← find_map (fun b => [b]) (fun x => x.isPrefixOf [a]) oneL, find_congr (q := fun x => x == a)]
  ·rw [find_eq]
   by_cases h : a ∈ oneL <;> simp [h]
  ·intro x _
   simp [List.isPrefixOf]
 rw [e1, e2]
 rfl
theorem rs_two (s : ByteArray) (i : Int) (x5 : ByteArray) (h : x5.toList ∈ twoL) (k : Nat) : truantref02_sign.j0 (k + 1) s i x5 = some 2 := by
 simp only [twoL, List.mem_cons, List.not_mem_nil, or_false] at h
 rcases h with h | h | h | h | h | h | h | h | h <;> simp [truantref02_sign.j0, h]
theorem rs_one (s : ByteArray) {i : Nat} (hi : i < s.size) (x5 : ByteArray) (h : x5.toList ∉ twoL) {a : UInt8} (ha : bt s (i : Nat) = (a.toNat : Int)) (k : Nat) : truantref02_sign.j0 (k + 1) s (i : Int) x5 = some (if a ∈ oneL then 1 else 0) := by
 simp only [twoL, List.mem_cons, List.not_mem_nil, or_false, not_or] at h
 obtain ⟨h1, h2, h3, h4, h5, h6, h7, h8, h9⟩ := h
 simp only [truantref02_sign.j0]
 rw [if_neg h1, if_neg h2, if_neg h3, if_neg h4, if_neg h5, if_neg h6, if_neg h7, if_neg h8, if_neg h9, if_pos (by omega), if_pos (by omega)]
 rw [ha]
 by_cases hm : a ∈ oneL
 ·rw [if_pos hm]
  simp only [oneL, List.mem_cons, List.not_mem_nil, or_false] at hm
  rcases hm with h | h | h | h | h | h | h | h | h | h | h | h | h | h | h | h | h | h | h <;> (subst h; rfl)
 ·rw [if_neg hm]
  simp only [oneL, List.mem_cons, List.not_mem_nil, or_false, not_or] at hm
  obtain ⟨m1, m2, m3, m4, m5, m6, m7, m8, m9, m10, m11, m12, m13, m14, m15, m16, m17, m18, m19⟩ := hm
  have n : ∀ {b : UInt8} (z : Int), z = (b.toNat : Int) → a ≠ b → ¬ (a.toNat : Int) = z := fun z hz h e => h (nat_byte.mp (e.trans hz))
  rw [if_neg (n 43 rfl m1), if_neg (n 45 rfl m2), if_neg (n 42 rfl m3), if_neg (n 47 rfl m4), if_neg (n 37 rfl m5), if_neg (n 38 rfl m6), if_neg (n 124 rfl m7), if_neg (n 94 rfl m8), if_neg (n 60 rfl m9), if_neg (n 62 rfl m10), if_neg (n 33 rfl m11), if_neg (n 61 rfl m12), if_neg (n 46 rfl m13), if_neg (n 44 rfl m14), if_neg (n 59 rfl m15), if_neg (n 40 rfl m16), if_neg (n 41 rfl m17), if_neg (n 123 rfl m18), if_neg (n 125 rfl m19)]
theorem rsign_ev (s : ByteArray) (hs : s.size ≤ 4096) {l : List UInt8} {i : Nat} (hl : l = s.data.toList.drop i) (hne : l ≠ []) : Ev (fun k => truantref02_sign.f k s (i : Int)) (((signK l).2.1.length : Nat) : Int) := by
 have hw : wrap64 ((i : Int) + 2) = ((i + 2 : Nat) : Int) := by
  have : l.length = s.size - i := by rw [hl, List.length_drop, data_length]
  have := List.length_pos_iff.mpr hne
  unfold wrap64; omega
 unfold truantref02_sign.f
 rw [hw]
 match l, hne with
 | [a], _ =>
  obtain ⟨hi, hb, hr⟩ := drop_cons s hl
  have hz := congrArg List.length hr
  rw [List.length_drop, data_length, List.length_nil] at hz
  refine Ev.neg (by omega) (Ev.step (f := fun _ => some (((signK [a]).2.1.length : Nat) : Int)) (fun k => ?_) (Ev.now _))
  rw [rs_one s hi _ (by rw [ByteArray.toList_eq]; decide) hb, signK_T, signT_one]
  by_cases h : a ∈ oneL <;> simp [h]
 | a :: b :: r, _ =>
  obtain ⟨hi, hb, hr⟩ := drop_cons s hl
  obtain ⟨hi2, hc, _⟩ := drop_cons s hr
  refine Ev.pos (by omega) (Ev.pos (by omega) (Ev.pos (by omega) (Ev.step (f := fun _ => some (((signK (a :: b :: r)).2.1.length : Nat) : Int)) (fun k => ?_) (Ev.now _))))
  have ex : s.extract (i : Int).toNat ((i + 2 : Nat) : Int).toNat = bA [a, b] := by
   rw [Int.toNat_natCast, Int.toNat_natCast]
   exact ext_tok s hl (t := [a, b]) (by simp)
  rw [ex, signK_T, signT_two]
  by_cases h : [a, b] ∈ twoL
  ·rw [rs_two s _ _ (by rw [bA_tl]; exact h), if_pos h]; rfl
  ·rw [rs_one s hi _ (by rw [bA_tl]; exact h) hb, if_neg h]
   by_cases h1 : a ∈ oneL <;> simp [h1]
theorem signK_len {l : List UInt8} {kd e : Int} {t : List UInt8} (h : signK l = (kd, t, e)) : (t.length = 0 ∧ e = 1 ∧ kd = 0) ∨ (t.length ≠ 0 ∧ e = 0 ∧ kd = 4) := by
 by_cases he : e = 0
 ·subst he
  obtain ⟨x, hx, h4, rfl, hp⟩ := signK_pre h
  exact .inr ⟨fun q => sign_ne x hx (List.eq_nil_of_length_eq_zero q), rfl, h4⟩
 ·unfold signK at h
  split at h
  ·injection h with h1 h2
   injection h2 with h2 h3
   subst h2
   exact .inl ⟨rfl, h3.symm, h1.symm⟩
  ·injection h with h1 h2
   injection h2 with h2 h3
   exact absurd h3.symm he
/-! the token that stands there -/
theorem r_tok {R : List Rk × Int × Int} {acc : List Rk} (s : ByteArray) (hs : s.size ≤ 4096) (ha : acc.length ≤ 4096) {l : List UInt8} {i : Nat} (hl : l = s.data.toList.drop i) {b : UInt8} {r0 : List UInt8} (hcons : l = b :: r0) (hB : blB (b.toNat : Int) = false) (hC : isCom l = false)
  {kd e : Int} {t : List UInt8} (ht : tokF l = (kd, t, e)) (h0 : e = 0 → Ev (fun k => truantref02_Scan.l0 k s (acc ++ [(⟨kd, bA t, (i : Int)⟩ : Rk)]) ((i + t.length : Nat) : Int)) R) (h1 : e ≠ 0 → R = ([], (i : Int), e)) : Ev (fun k => truantref02_Scan.l0 k s acc (i : Int)) R := by
 obtain ⟨hi, hb, _⟩ := drop_cons s (hcons ▸ hl)
 have hne : l ≠ [] := by rw [hcons]; simp
 have hlen : l.length = s.size - i := by rw [hl, List.length_drop, data_length]
 have hnb : ¬ (bt s (i : Nat) = 32 ∨ bt s (i : Nat) = 9 ∨ bt s (i : Nat) = 10 ∨ bt s (i : Nat) = 13) := by rw [hb]; exact fun q => by rw [bl_cases.mpr q] at hB; cases hB
 refine r_plain s hs hi hnb (r_j1 s hs hl hne ?_)
 rw [hC]
 refine Ev.step (f := fun k => (truantref02_letter.f (bt s (i : Nat))).bind _) (fun k => by simp only [truantref02_Scan.j2, Bool.false_eq_true, if_false]; rfl) ?_
 refine Ev.one (rletter _) ?_
 have hL : headB letB l = letB (bt s (i : Nat)) := by rw [hcons, hb]; rfl
 have hD : headB digB l = digB (bt s (i : Nat)) := by rw [hcons, hb]; rfl
 unfold tokF at ht
 rw [hL, hD] at ht
 cases hLe : letB (bt s (i : Nat)) with
 | true =>
  rw [hLe, if_pos rfl] at ht
  injection ht with t1 t2
  injection t2 with t2 t3
  have hpl := (twP_pre lodB l).length_le
  have hp := twP_pre lodB l
  rw [t2] at hpl hp
  refine Ev.pos rfl (r_l2 s hs _ l i hl ?_)
  rw [runP_tw, t2]
  have hx := ext_tok s hl hp
  have hsub : wrap64 (((i + t.length : Nat) : Int) - (i : Int)) = (t.length : Int) := by unfold wrap64; omega
  refine Ev.step (fun k => rfl) (Ev.pos (by omega) (Ev.pos (by omega) ?_))
  rw [t2] at t1 t3
  rw [Int.toNat_natCast, Int.toNat_natCast, hx, hsub]
  have hKf : truantref02_Key.f (bA t) = some (keyB (bA t)) := rfl
  rw [hKf]
  refine Ev.congr (fun k => Option.bind_some ..) ?_
  cases hK : keyB (bA t) with
  | true =>
   rw [hK, if_pos rfl] at t1
   refine Ev.pos rfl ?_
   by_cases h12 : 12 < t.length
   ·rw [if_pos h12] at t3
    refine Ev.pos (by omega) (Ev.eq (Ev.now _) ?_)
    rw [h1 (by omega), ← t3]
   ·rw [if_neg h12] at t3
    refine Ev.neg (by omega) (Ev.pos (by omega) ?_)
    have := h0 t3.symm
    rw [← t1] at this
    exact this
  | false =>
   rw [hK, if_neg (by decide)] at t1
   refine Ev.neg (by decide) ?_
   by_cases h12 : 12 < t.length
   ·rw [if_pos h12] at t3
    refine Ev.pos (by omega) (Ev.eq (Ev.now _) ?_)
    rw [h1 (by omega), ← t3]
   ·rw [if_neg h12] at t3
    refine Ev.neg (by omega) (Ev.pos (by omega) ?_)
    have := h0 t3.symm
    rw [← t1] at this
    exact this
 | false =>
  rw [hLe, if_neg (by decide)] at ht
  refine Ev.neg (by decide) (Ev.one (rdigit _) ?_)
  cases hDi : digB (bt s (i : Nat)) with
  | true =>
   rw [hDi, if_pos rfl] at ht
   injection ht with t1 t2
   injection t2 with t2 t3
   have hpl := (twP_pre digB l).length_le
   have hp := twP_pre digB l
   rw [t2] at hpl hp t3
   have hx := ext_tok s hl hp
   refine Ev.pos rfl (r_l3 s hs _ l i hl ?_)
   rw [runP_tw, t2]
   have j8 : ∀ {x : Bool}, x = headB letB (l.drop t.length) → Ev (fun k => truantref02_Scan.j8 k s acc (i : Int) ((i + t.length : Nat) : Int) 3 x) R := fun {x} hxx => by
    cases x with
    | true =>
     rw [← hxx, if_pos rfl] at t3
     refine Ev.step (f := fun _ => some ([], (i : Int), 1)) (fun k => rfl) (Ev.eq (Ev.now _) ?_)
     rw [h1 (by omega), ← t3]
    | false =>
     rw [← hxx, if_neg (by decide)] at t3
     refine Ev.step (f := fun k => if 0 ≤ (i : Int) then _ else none) (fun k => by simp only [truantref02_Scan.j8, Bool.false_eq_true, if_false]; rfl) ?_
     refine Ev.pos (by omega) (Ev.pos (by omega) (Ev.pos (by omega) ?_))
     rw [Int.toNat_natCast, Int.toNat_natCast, hx]
     refine Ev.bind (parse_same (bA t) (by rw [bA_size]; omega)) ?_
     rw [t3]
     by_cases he : e = 0
     ·refine Ev.pos he (Ev.pos (by omega) ?_)
      have := h0 he
      rw [← t1] at this
      exact this
     ·exact Ev.neg he (Ev.eq (Ev.now _) (h1 he).symm)
   by_cases hlt : i + t.length < s.size
   ·refine Ev.step (fun k => rfl) (Ev.pos (by omega) (Ev.pos (by omega) (Ev.one (rletter _) (j8 ?_))))
    rw [hl, drop_drop', head_drop letB s hlt]
   ·refine Ev.step (fun k => rfl) (Ev.neg (by omega) (j8 ?_))
    rw [List.drop_eq_nil_of_le (by omega)]
    rfl
  | false =>
   rw [hDi, if_neg (by decide)] at ht
   refine Ev.neg (by decide) (Ev.bind (rsign_ev s hs hl hne) ?_)
   rw [ht]
   have hk := signK_len ht
   rcases hk with ⟨k1, k2, k3⟩ | ⟨k1, k2, k3⟩
   ·have hw : wrap64 ((i : Int) + ((t.length : Nat) : Int)) = (i : Int) := by rw [k1]; unfold wrap64; omega
    refine Ev.pos hw (Ev.eq (Ev.now _) ?_)
    rw [h1 (by omega), k2]
   ·subst k2 k3
    have hp := (signK_pre ht)
    obtain ⟨x, _, _, _, hp⟩ := hp
    have hpl := hp.length_le
    have hx := ext_tok s hl hp
    have hw : wrap64 ((i : Int) + ((t.length : Nat) : Int)) = ((i + t.length : Nat) : Int) := by unfold wrap64; omega
    simp only [hw]
    refine Ev.neg (by omega) (Ev.pos (by omega) (Ev.pos (by omega) (Ev.pos (by omega) (Ev.pos (by omega) ?_))))
    rw [Int.toNat_natCast, Int.toNat_natCast, hx]
    exact h0 rfl
theorem rscan_l (s : ByteArray) (hs : s.size ≤ 4096) {l : List UInt8} {i : Nat} {r : List Tk} {p e : Int} (h : Sc l i r p e) : l = s.data.toList.drop i → i ≤ s.size → ∀ acc : List Rk, acc.length ≤ i → Ev (fun k => truantref02_Scan.l0 k s acc (i : Int)) (outS (acc ++ r.map rT) p e) := by
 induction h with
 | @done l i h =>
  intro hl hi acc ha
  have hlen : l.length = s.size - i := by rw [hl, List.length_drop, data_length]
  refine r_skip s hs l i hl (Ev.step (fun k => rfl) (Ev.neg (by omega) (Ev.eq (Ev.now _) ?_)))
  simp [outS]
 | @bad l i kd e t h ht he =>
  intro hl hi acc ha
  have hlen : l.length = s.size - i := by rw [hl, List.length_drop, data_length]
  have hl2 : l.drop (skipN l) = s.data.toList.drop (i + skipN l) := by rw [hl, drop_drop', ← hl]
  obtain ⟨b, r0, hc⟩ := List.exists_cons_of_ne_nil (drop_ne h)
  obtain ⟨hB, hC⟩ := skip_after l b r0 hc
  refine r_skip s hs l i hl (r_tok s hs (by omega) hl2 hc hB (by rw [hc]; exact hC) ht (fun q => absurd q he) (fun _ => ?_))
  simp [outS, he]
 | @go l i kd p e t r h ht _ ih =>
  intro hl hi acc ha
  have hlen : l.length = s.size - i := by rw [hl, List.length_drop, data_length]
  have hl2 : l.drop (skipN l) = s.data.toList.drop (i + skipN l) := by rw [hl, drop_drop', ← hl]
  obtain ⟨b, r0, hc⟩ := List.exists_cons_of_ne_nil (drop_ne h)
  obtain ⟨hB, hC⟩ := skip_after l b r0 hc
  have hp := tok_pre ht
  have hpl := hp.2.length_le
  have hpos : 0 < t.length := List.length_pos_iff.mpr hp.1
  rw [List.length_drop] at hpl
  have hi' : i + skipN l + t.length ≤ s.size := by omega
  have ha' : (acc ++ [(⟨kd, bA t, ((i + skipN l : Nat) : Int)⟩ : Rk)]).length ≤ i + skipN l + t.length := by rw [List.length_append, List.length_singleton]; omega
  have hd : l.drop (skipN l + t.length) = s.data.toList.drop (i + skipN l + t.length) := by rw [hl, drop_drop', ← hl, Nat.add_assoc]
  have key := ih hd hi' _ ha'
  rw [List.append_assoc] at key
  exact r_skip s hs l i hl (r_tok s hs (by omega) hl2 hc hB (by rw [hc]; exact hC) ht (fun _ => key) (fun q => absurd rfl q))
theorem rscan_ev (s : ByteArray) (hs : s.size ≤ 4096) {r : List Tk} {p e : Int} (h : Sc s.data.toList 0 r p e) : Ev (fun k => truantref02_Scan.f k s) (outS (r.map rT) p e) := by
 refine Ev.neg (by omega) ?_
 have := rscan_l s hs h rfl (Nat.zero_le _) [] (Nat.zero_le _)
 rw [List.nil_append] at this
 exact this
theorem rscan_full (s : ByteArray) (hs : 4096 < s.size) : Ev (fun k => truantref02_Scan.f k s) (([] : List Rk), 4096, 4) := Ev.pos (by omega) (Ev.now _)
end Go.Proofs.YtcmppjonpmgncaaGreatDoor.Q

/- Where tokens stand, and how long their texts are together. -/

namespace Go.Proofs.YtcmppjonpmgncaaGreatDoor.Q
open Go.RowKit Go.Proofs.YtcmppjonpmgncaaGreatDoorW.PrintWords Go.Proofs.YtcmppjonpmgncaaGreatDoorW.PrintLast Go.Proofs.YtcmppjonpmgncaaGreatDoorW.PrintMore
set_option linter.unusedVariables false
set_option linter.unusedSimpArgs false
theorem joinT_cons (x y : Tk) (r : List Tk) : joinT (x :: y :: r) = x.f1.data.toList ++ 32 :: joinT (y :: r) := by
 show Lib.join (x.f1.data.toList :: y.f1.data.toList :: r.map _) [32] = _
 simp [Lib.join, joinT]
theorem joinT_one (x : Tk) : joinT [x] = x.f1.data.toList := by show Lib.join [x.f1.data.toList] [32] = _; simp [Lib.join]
theorem Sc.size {l : List UInt8} {i : Nat} {r : List Tk} {p e : Int} (h : Sc l i r p e) : r.length ≤ l.length ∧ (joinT r).length ≤ 2 * l.length := by
 induction h with
 | done _ => exact ⟨Nat.zero_le _, Nat.zero_le _⟩
 | bad _ _ _ => exact ⟨Nat.zero_le _, Nat.zero_le _⟩
 | @go l i kd p e t r h ht _ ih =>
  have hp := (tok_pre ht).2.length_le
  have hpos : 0 < t.length := List.length_pos_iff.mpr (tok_pre ht).1
  rw [List.length_drop] at hp ih
  refine ⟨by rw [List.length_cons]; omega, ?_⟩
  cases r with
  | nil => rw [joinT_one]; show t.length ≤ _; omega
  | cons y r =>
   rw [joinT_cons, List.length_append, List.length_cons]
   show t.length + _ ≤ _
   omega
end Go.Proofs.YtcmppjonpmgncaaGreatDoor.Q

/- The line and the column of a place: how many line feeds stand ahead, how many bytes behind the last one. -/

namespace Go.Proofs.YtcmppjonpmgncaaGreatDoor.Q
open Go.RowKit Go.Proofs.YtcmppjonpmgncaaGreatDoorW.PrintWords Go.Proofs.YtcmppjonpmgncaaGreatDoorW.PrintLast Go.Proofs.YtcmppjonpmgncaaGreatDoorW.PrintMore
set_option linter.unusedVariables false
set_option linter.unusedSimpArgs false
/-- How many bytes stand behind the last line feed. -/
def colN (l : List UInt8) : Nat := (l.reverse.takeWhile (fun b => b != 10)).length
theorem colN_snoc (l : List UInt8) (b : UInt8) : colN (l ++ [b]) = if b = 10 then 0 else colN l + 1 := by
 unfold colN
 rw [List.reverse_append, List.reverse_cons, List.reverse_nil, List.nil_append, List.singleton_append, List.takeWhile_cons]
 by_cases h : b = 10
 ·subst h; rfl
 ·rw [if_pos (by simpa using h), if_neg h, List.length_cons]
theorem colN_le (l : List UInt8) : colN l ≤ l.length := by
 unfold colN
 have := (List.takeWhile_sublist (l := l.reverse) (fun b => b != 10)).length_le
 rwa [List.length_reverse] at this
def lfN (l : List UInt8) : Nat := l.count 10
theorem lfN_snoc (l : List UInt8) (b : UInt8) : lfN (l ++ [b]) = lfN l + if b = 10 then 1 else 0 := by
 unfold lfN
 rw [List.count_append, List.count_singleton]
 by_cases h : b = 10 <;> simp [h]
theorem lfN_le (l : List UInt8) : lfN l ≤ l.length := List.count_le_length
theorem take_snoc (s : ByteArray) {i : Nat} (h : i < s.size) : s.data.toList.take (i + 1) = s.data.toList.take i ++ [s.data.toList[i]'(by rw [data_length]; exact h)] := by
 rw [List.take_add_one, List.getElem?_eq_getElem (by rw [data_length]; exact h)]
 rfl
theorem bt_ten (s : ByteArray) {i : Nat} (h : i < s.size) : bt s i = 10 ↔ s.data.toList[i]'(by rw [data_length]; exact h) = 10 := by
 rw [bt_nat s i h]
 constructor
 ·intro e
  exact UInt8.toNat_inj.mp (by rw [show (10 : UInt8).toNat = 10 from rfl]; omega)
 ·intro e
  rw [e]; rfl
theorem last_ev (s : ByteArray) (hs : s.size ≤ 140737488351232) : ∀ j : Nat, j ≤ s.size → Ev (fun k => bytealg_LastIndexByteString.l0 k s 10 ((j : Int) - 1)) ((j : Int) - 1 - (colN (s.data.toList.take j) : Nat)) := by
 intro j
 induction j with
 | zero =>
  intro _
  refine Ev.step (fun k => rfl) (Ev.neg (by omega) ?_)
  exact Ev.now _
 | succ j ih =>
  intro h
  have e : ((j + 1 : Nat) : Int) - 1 = (j : Int) := by omega
  rw [e]
  refine Ev.step (fun k => rfl) (Ev.pos (by omega) (Ev.pos (by omega) (Ev.pos (by omega) ?_)))
  rw [take_snoc s (by omega), colN_snoc]
  by_cases hb : bt s (j : Nat) = 10
  ·refine Ev.pos hb ?_
   rw [if_pos ((bt_ten s (by omega)).mp hb)]
   exact Ev.eq (Ev.now _) (by omega)
  ·refine Ev.neg hb ?_
   rw [if_neg (fun q => hb ((bt_ten s (by omega)).mpr q))]
   have e2 : wrap64 ((j : Int) - 1) = (j : Int) - 1 := by unfold wrap64; omega
   rw [e2]
   exact Ev.eq (ih (by omega)) (by omega)
def lineN (s : ByteArray) (i : Nat) : Int × Int := (((lfN (s.data.toList.take i) + 1 : Nat) : Int), ((colN (s.data.toList.take i) + 1 : Nat) : Int))
theorem line_ev (s : ByteArray) (hs : s.size ≤ 140737488351232) {i : Nat} (hi : i ≤ s.size) : Ev (fun k => lex_Line.f k s (i : Int)) (lineN s i) := by
 have hz : (s.extract 0 i).size = i := by rw [ByteArray.size_extract]; omega
 have hl : (s.extract 0 i).data.toList = s.data.toList.take i := ext_take s i
 refine Ev.neg (by omega) ?_
 rw [show decide ((i : Int) > (s.size : Int)) = false from decide_eq_false (by omega)]
 refine Ev.step (f := fun k => _) (fun k => by simp only [lex_Line.j0, Bool.false_eq_true, if_false]; rfl) ?_
 refine Ev.pos (by omega) (Ev.pos (by omega) ?_)
 rw [Int.toNat_natCast]
 refine Ev.one (a := strings_Count.f (s.extract 0 i) ⟨#[10]⟩) (b := ((lfN (s.data.toList.take i) : Nat) : Int)) (by show some _ = some _; rw [hl]; rfl) ?_
 have hlast := last_ev (s.extract 0 i) (by omega) i (by omega)
 rw [hl, List.take_take, Nat.min_self] at hlast
 have h1 := lfN_le (s.data.toList.take i)
 have h2 := colN_le (s.data.toList.take i)
 rw [List.length_take] at h1 h2
 refine Ev.bind (a := (i : Int) - 1 - (colN (s.data.toList.take i) : Nat)) ?_ ?_
 ·refine Ev.bind (a := (i : Int) - 1 - (colN (s.data.toList.take i) : Nat)) ?_ (Ev.now _)
  show Ev (fun k => bytealg_LastIndexByteString.l0 k (s.extract 0 i) 10 (wrap64 (((s.extract 0 i).size : Int) - 1))) _
  rw [hz, show wrap64 ((i : Int) - 1) = (i : Int) - 1 by unfold wrap64; omega]
  exact hlast
 ·refine Ev.eq (Ev.now _) ?_
  unfold lineN
  rw [Prod.mk.injEq]
  constructor
  ·unfold wrap64; omega
  ·unfold wrap64; omega
theorem line_out (s : ByteArray) {x : Int} (h : x < 0 ∨ (s.size : Int) < x) : Ev (fun k => lex_Line.f k s x) (0, 0) := by
 have hj : Ev (fun k => lex_Line.j0 k s x true) (0, 0) := Ev.step (f := fun _ => some (0, 0)) (fun k => rfl) (Ev.now _)
 by_cases h0 : x < 0
 ·exact Ev.pos h0 hj
 ·refine Ev.neg h0 ?_
  rw [show decide (x > (s.size : Int)) = true from decide_eq_true (by omega)]
  exact hj
end Go.Proofs.YtcmppjonpmgncaaGreatDoor.Q

/- The anchor of the words' laws. -/

namespace Go.Proofs.YtcmppjonpmgncaaGreatDoor.Q
open Go.RowKit Go.Proofs.YtcmppjonpmgncaaGreatDoorW.PrintWords Go.Proofs.YtcmppjonpmgncaaGreatDoorW.PrintLast Go.Proofs.YtcmppjonpmgncaaGreatDoorW.PrintMore
set_option linter.unusedVariables false
set_option linter.unusedSimpArgs false
theorem awake_true : Ev (fun k => truantlaw02_awake.f k) true := by
 have h : truantlaw02_awake.f 40 = some true := by kernel_rfl
 exact Ev.of (fun k => truantlaw02_awake.mono k) h
end Go.Proofs.YtcmppjonpmgncaaGreatDoor.Q

/- The plain law of LexExact: by hand. -/

namespace Go.Proofs.YtcmppjonpmgncaaGreatDoor.Q
open Go.RowKit Go.Proofs.YtcmppjonpmgncaaGreatDoorW.PrintWords Go.Proofs.YtcmppjonpmgncaaGreatDoorW.PrintLast Go.Proofs.YtcmppjonpmgncaaGreatDoorW.PrintMore
set_option linter.unusedVariables false
set_option linter.unusedSimpArgs false
theorem rline_l (s : ByteArray) {n : Nat} (hn : n ≤ s.size) (hs : s.size ≤ 5000) : ∀ (d i : Nat), i + d = n → Ev (fun k => truantref02_Line.l0 k s (n : Int) (lineN s i).1 (lineN s i).2 (i : Int)) (lineN s n) := by
 intro d
 induction d with
 | zero =>
  intro i hi
  obtain rfl : i = n := hi
  exact Ev.step (fun k => rfl) (Ev.neg (by omega) (Ev.now _))
 | succ d ih =>
  intro i hi
  have hlt : i < s.size := by omega
  have hl1 := lfN_le (s.data.toList.take i)
  have hl2 := colN_le (s.data.toList.take i)
  rw [List.length_take] at hl1 hl2
  have key := ih (i + 1) (by omega)
  have hw : wrap64 ((i : Int) + 1) = ((i + 1 : Nat) : Int) := by unfold wrap64; omega
  have e1 : lineN s (i + 1) = if bt s (i : Int) = 10 then ((lineN s i).1 + 1, 1) else ((lineN s i).1, (lineN s i).2 + 1) := by
   unfold lineN
   rw [take_snoc s hlt, lfN_snoc, colN_snoc]
   by_cases hb : bt s (i : Int) = 10
   ·rw [if_pos hb, if_pos ((bt_ten s hlt).mp hb), if_pos ((bt_ten s hlt).mp hb)]; simp
   ·rw [if_neg hb, if_neg (fun q => hb ((bt_ten s hlt).mpr q)), if_neg (fun q => hb ((bt_ten s hlt).mpr q))]; simp
  have w1 : wrap64 ((lineN s i).1 + 1) = (lineN s i).1 + 1 := by unfold lineN wrap64; simp only; omega
  have w2 : wrap64 ((lineN s i).2 + 1) = (lineN s i).2 + 1 := by unfold lineN wrap64; simp only; omega
  refine Ev.step (fun k => rfl) (Ev.pos (by omega) (Ev.pos (by omega) (Ev.pos (by omega) ?_)))
  rw [e1] at key
  rw [hw, w1, w2]
  by_cases hb : bt s (i : Int) = 10
  ·rw [if_pos hb] at key
   exact Ev.pos hb key
  ·rw [if_neg hb] at key
   exact Ev.neg hb key
theorem rline_ev (s : ByteArray) (hs : s.size ≤ 5000) {i : Nat} (hi : i ≤ s.size) : Ev (fun k => truantref02_Line.f k s (i : Int)) (lineN s i) := by
 refine Ev.neg (by omega) ?_
 rw [show decide ((i : Int) > (s.size : Int)) = false from decide_eq_false (by omega)]
 refine Ev.step (f := fun k => truantref02_Line.l0 k s (i : Int) 1 1 0) (fun k => rfl) ?_
 exact rline_l s hi hs i 0 (Nat.zero_add _)
theorem rline_out (s : ByteArray) {x : Int} (h : x < 0 ∨ (s.size : Int) < x) : Ev (fun k => truantref02_Line.f k s x) (0, 0) := by
 have hj : Ev (fun k => truantref02_Line.j0 k s x true) (0, 0) := Ev.step (f := fun _ => some (0, 0)) (fun k => rfl) (Ev.now _)
 by_cases h0 : x < 0
 ·exact Ev.pos h0 hj
 ·refine Ev.neg h0 ?_
  rw [show decide (x > (s.size : Int)) = true from decide_eq_true (by omega)]
  exact hj
theorem lines_ev (s : ByteArray) (hs : s.size ≤ 5000) (x : Int) : Ev (fun k => (lex_Line.f k s x).bind fun bt286 => ((truantref02_Line.f k s x).bind fun bt288 => (if bt286.1 = bt288.1 then (some (bt286.2 == bt288.2)) else (none)))) true := by
 by_cases h : x < 0 ∨ (s.size : Int) < x
 ·exact Ev.bind (line_out s h) (Ev.bind (rline_out s h) (Ev.pos rfl (Ev.eq (Ev.now _) (by simp))))
 ·obtain ⟨i, rfl⟩ : ∃ i : Nat, x = (i : Int) := ⟨x.toNat, by omega⟩
  have hi : i ≤ s.size := by omega
  exact Ev.bind (line_ev s (by omega) hi) (Ev.bind (rline_ev s hs hi) (Ev.pos rfl (Ev.eq (Ev.now _) (by simp))))
theorem rd_rT (r : List Tk) {i : Nat} (h : i < r.length) : rd_T33 (r.map rT) (i : Int) = rT (rd_T32 r (i : Int)) := by
 unfold rd_T33 rd_T32
 rw [Int.toNat_natCast, getD_at _ _ (by rw [List.length_map]; exact h), getD_at _ _ h, List.getElem_map]
theorem exact_loop (s : ByteArray) (x : Int) (hs : s.size ≤ 5000) (r : List Tk) (hr : r.length ≤ 5000) : ∀ (d i : Nat), i + d = r.length → Ev (fun k => truantlaw02_LexExact.l0 k s x r (r.map rT) (i : Int)) true := by
 have hm : (r.map rT).length = r.length := List.length_map ..
 intro d
 induction d with
 | zero => intro i hi; exact Ev.step (fun k => rfl) (Ev.neg (by omega) (lines_ev s hs x))
 | succ d ih =>
  intro i hi
  have hlt : i < r.length := by omega
  have key := ih (i + 1) (by omega)
  have e := rd_rT r hlt
  have hw : wrap64 ((i : Int) + 1) = ((i + 1 : Nat) : Int) := by unfold wrap64; omega
  refine Ev.step (fun k => rfl) (Ev.pos (by omega) (Ev.pos (by omega) (Ev.pos (by omega) ?_)))
  rw [e, hw]
  exact Ev.pos rfl (Ev.pos rfl (Ev.pos rfl key))
theorem LexExact_pure : LexExact.Pure := by
 intro s x _ _
 refine Ev.rounds ?_
 unfold truantlaw02_LexExact.f
 refine Ev.bind awake_true ?_
 refine Ev.congr (fun k => if_pos rfl) ?_
 by_cases h1 : (s.size : Int) > 4106
 ·exact Ev.pos h1 (Ev.now _)
 refine Ev.neg h1 ?_
 have hrest : ∀ r : List Tk, r.length ≤ 5000 → Ev (fun k => (lex_IsWord.f k s).bind fun t276 => ((truantref02_Word.f k s).bind fun t277 => (if (t276 != t277) = true then (none) else ((lex_IsKey.f k s).bind fun t278 => ((truantref02_Key.f s).bind fun t279 => (if (t278 != t279) = true then (none) else (truantlaw02_LexExact.l0 k s x r (r.map rT) 0))))))) true := fun r hr => by
  refine Ev.bind (isWord_ev s (by omega)) (Ev.bind (rword_ev s) (Ev.neg (by simp) (Ev.bind (isKey_ev s) (Ev.one (show truantref02_Key.f s = some (keyB s) from rfl) (Ev.neg (by simp) ?_)))))
  exact exact_loop s x (by omega) r hr r.length 0 (Nat.zero_add _)
 by_cases hz : s.size ≤ 4096
 ·obtain ⟨r, p, e, hA⟩ := Sc.ex s.data.toList 0
  have hsz := hA.size.1
  rw [data_length] at hsz
  refine Ev.bind (scan_ev s hz hA) (Ev.bind (rscan_ev s hz hA) ?_)
  by_cases he : e = 0
  ·have o1 : outS r p e = (r, 0, 0) := by unfold outS; rw [if_pos he]
   have o2 : outS (r.map rT) p e = (r.map rT, 0, 0) := by unfold outS; rw [if_pos he]
   rw [o1, o2]
   exact Ev.pos rfl (Ev.pos rfl (Ev.pos (by rw [List.length_map]) (hrest r (by omega))))
  ·have o1 : outS r p e = ([], p, e) := by unfold outS; rw [if_neg he]
   have o2 : outS (r.map rT) p e = ([], p, e) := by unfold outS; rw [if_neg he]
   rw [o1, o2]
   exact Ev.pos rfl (Ev.pos rfl (Ev.pos rfl (hrest [] (Nat.zero_le _))))
 ·exact Ev.bind (scan_full s (by omega)) (Ev.bind (rscan_full s (by omega)) (Ev.pos rfl (Ev.pos rfl (Ev.pos rfl (hrest [] (Nat.zero_le _))))))
end Go.Proofs.YtcmppjonpmgncaaGreatDoor.Q

/- From what the row lists to what the calls read of the package-level variables: by hand. -/
namespace Go.Proofs.YtcmppjonpmgncaaGreatDoor.Q
open Go.RowKit Go.Proofs.YtcmppjonpmgncaaGreatDoorW.PrintWords Go.Proofs.YtcmppjonpmgncaaGreatDoorW.PrintLast Go.Proofs.YtcmppjonpmgncaaGreatDoorW.PrintMore
set_option linter.unusedVariables false
set_option linter.unusedSimpArgs false
theorem gES : Tryz.prog.globalNamed "strconv.ErrSyntax" = some 1 := by kernel_rfl
theorem gER : Tryz.prog.globalNamed "strconv.ErrRange" = some 2 := by kernel_rfl
theorem gPow : Tryz.prog.globalNamed "internal/strconv.uint64pow10" = some 5 := by kernel_rfl
theorem gESType : (Tryz.prog.globals[1]?).map (·.type) = some 62 := by kernel_rfl
theorem gERType : (Tryz.prog.globals[2]?).map (·.type) = some 62 := by kernel_rfl
theorem gPowType : (Tryz.prog.globals[5]?).map (·.type) = some 119 := by kernel_rfl
theorem cellsES : Tryz.prog.cellsOf 106 = 1 := by kernel_rfl
theorem cellsStr : Tryz.prog.cellsOf 9 = 1 := by kernel_rfl
theorem cellsU64 : Tryz.prog.cellsOf 54 = 1 := by kernel_rfl
theorem cellsPow : Tryz.prog.cellsOf 119 = 20 := by kernel_rfl
theorem star_ : "*" ++ "errors.errorString" = "*errors.errorString" := by decide
theorem rowES (u : TypeId) (h : Tryz.prog.typeName? 3 u = some "*errors.errorString") : u = 104 :=
 typeName_ptr_named (nm := "errors.errorString") (by rw [star_]; kernel_rfl) (by kernel_rfl) (by decide) u (by rw [star_]; exact h)
theorem powData : (Rows.laid_internal_strconv_uint64pow10 : DataW Unit) = Lib.tabData .u64 Lib.pow10Tab := by kernel_rfl
def listed : List (String × DataW Unit) := [("math/bits.deBruijn32tab", Rows.laid_math_bits_deBruijn32tab), ("math/bits.deBruijn64tab", Rows.laid_math_bits_deBruijn64tab), ("internal/strconv.uint64pow10", Rows.laid_internal_strconv_uint64pow10), ("unicode/utf8.acceptRanges", Rows.laid_unicode_utf8_acceptRanges), ("strconv.ErrRange", Rows.laid_strconv_ErrRange), ("strconv.ErrSyntax", Rows.laid_strconv_ErrSyntax), ("unicode/utf8.first", Rows.laid_unicode_utf8_first)]
theorem glob_of_laid {W : World} (h : laidMetH Tryz.prog listed W) : Glob W := by
 rw [MakeChecks.laidMetH_plain _ _ _ (by kernel_rfl)] at h
 have h2 := h.tail.tail
 have h4 := h2.tail.tail
 have h5 := h4.tail
 rw [powData] at h2
 have a := Lib.tabIs_of_head gPow gPowType Tryz.underlying119 Tryz.underlying54 cellsU64 cellsPow h2
 obtain ⟨p4, _, v4, _, _, _⟩ := laid_sentinel h4 gER gERType Tryz.underlying62 rowES Tryz.underlying104 Tryz.underlying106 rfl rfl Tryz.underlying9 cellsES cellsStr
 obtain ⟨p5, _, v5, _, _, _⟩ := laid_sentinel h5 gES gESType Tryz.underlying62 rowES Tryz.underlying104 Tryz.underlying106 rfl rfl Tryz.underlying9 cellsES cellsStr
 exact ⟨a, ⟨_, _, v5⟩, ⟨_, _, v4⟩⟩
end Go.Proofs.YtcmppjonpmgncaaGreatDoor.Q

