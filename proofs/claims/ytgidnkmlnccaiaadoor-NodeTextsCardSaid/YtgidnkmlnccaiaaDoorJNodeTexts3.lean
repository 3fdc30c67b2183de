/- What the row of NodeTexts rests on, part 3: contracts of the functions that it reaches, and the plain law. -/
import Derived.Test.YtgidnkmlnccaiaaDoorJNodeTexts2
/- The plain law of layer 3, kind: what the printed functions come to. -/
namespace Go.Proofs.YtgidnkmlnccaiaaDoor.Q
open Go.RowKit Go.Proofs.YtgidnkmlnccaiaaDoorW.PrintWords Go.Proofs.YtgidnkmlnccaiaaDoorW.PrintLast Go.Proofs.YtgidnkmlnccaiaaDoorW.PrintMore
set_option linter.unusedVariables false
set_option linter.unusedSimpArgs false
/-! words -/
theorem index_ev (l : List ByteArray) (s : ByteArray) (hm : l.length ≤ 9223372036854775807) (d : Nat) : ∀ i : Nat, i ≤ l.length → l.length - i = d → (∀ j : Nat, j < i → keyIs s (l.getD j ByteArray.empty) = false) →
  Ev (fun k => slices_Index_string_string.l0 k l s (l.length : Int) (i : Int)) (findR (keyIs s) l) := by
 induction d with
 | zero =>
  intro i h0 hd h
  refine Ev.step (fun k => rfl) (Ev.neg (by omega) ?_)
  rw [find_none (z := ByteArray.empty) (fun j hj => h j (by omega))]
  exact Ev.now _
 | succ d ih =>
  intro i h0 hd h
  refine Ev.step (fun k => rfl) (Ev.pos (by omega) (Ev.pos (by omega) (Ev.pos (by omega) ?_)))
  by_cases e : keyIs s (l.getD i ByteArray.empty) = true
  ·have e2 : s.toList = (rdOf ByteArray.empty l (i : Int)).toList := (beq_iff_eq.mp e).symm
   refine Ev.pos e2 ?_
   rw [find_last (z := ByteArray.empty) (k := i) (by omega) h e]
   exact Ev.now _
  ·have e2 : ¬ s.toList = (rdOf ByteArray.empty l (i : Int)).toList := fun q => e (beq_iff_eq.mpr q.symm)
   refine Ev.neg e2 ?_
   rw [wrap_succ (by omega) (by omega)]
   exact ih (i + 1) (by omega) (by omega) (all_succ (P := fun j => keyIs s (l.getD j ByteArray.empty) = false) h (by simpa using e))
def keyB (s : ByteArray) : Bool := decide (0 ≤ findR (keyIs s) keyList)
theorem isKey_ev (s : ByteArray) : Ev (fun k => lex_IsKey.f k s) (keyB s) := by
 have h := index_ev keyList s (by decide) 16 0 (by decide) (by decide) (fun j hj => absurd hj (by omega))
 have h2 : Ev (fun k => slices_Contains_string_string.f k keyList s) (keyB s) := Ev.bind h (Ev.now _)
 exact Ev.one (a := lex_keys.f) (b := keyList) rfl (Ev.bind h2 (Ev.now _))
def wordB (s : ByteArray) : Bool := nameB s && (decide (s.size ≤ 12) && !keyB s)
theorem isWord_ev (s : ByteArray) (hs : s.size ≤ 9223372036854775807) : Ev (fun k => lex_IsWord.f k s) (wordB s) := by
 refine Ev.one (a := lex_isName.f s) (b := nameB s) (by unfold lex_isName.f; rw [if_pos hs]) ?_
 unfold wordB
 cases nameB s with
 | false => exact Ev.neg (by decide) (Ev.now _)
 | true =>
  refine Ev.pos rfl ?_
  by_cases h : s.size ≤ 12
  ·refine Ev.pos (by omega) (Ev.eq (Ev.bind (isKey_ev s) (Ev.now _)) (by simp [h]))
  ·refine Ev.neg (by omega) (Ev.eq (Ev.now _) (by simp [h]))
/-! types -/
/-- Behind the star, if that is a word. -/
def rest (t : ByteArray) : ByteArray := t.extract 1 t.size
def starB (t : ByteArray) : Bool := decide (0 < t.size) && (bt t 0 == 42)
def ptrB (t : ByteArray) : Bool := starB t && wordB (rest t)
def elemS (t : ByteArray) : ByteArray × Bool := if ptrB t = true then (rest t, true) else (⟨#[]⟩, false)
theorem rest_size (t : ByteArray) : (rest t).size = t.size - 1 := by unfold rest; simp
theorem cutPrefix_one (t : ByteArray) : strings_CutPrefix.f t (⟨#[42]⟩ : ByteArray) = some (if starB t = true then (rest t, true) else (t, false)) := by
 have e1 : ((⟨#[42]⟩ : ByteArray).size : Int) = 1 := rfl
 have e2 : (⟨#[42]⟩ : ByteArray).toList = [42] := by rw [ByteArray.toList_eq]
 unfold strings_CutPrefix.f stringslite_CutPrefix.f stringslite_HasPrefix.f
 rw [e1, e2]
 by_cases h0 : 0 < t.size
 ·have hb : ((t.extract 0 (1 : Int).toNat).toList == [42]) = starB t := by
   obtain ⟨⟨l⟩⟩ := t
   cases l with
   | nil => simp [ByteArray.size] at h0
   | cons x l =>
    have e3 : (ByteArray.extract ⟨⟨x :: l⟩⟩ 0 (1 : Int).toNat).toList = [x] := by
     rw [Lib.extract_toList]; rfl
    have e4 : bt ⟨⟨x :: l⟩⟩ 0 = (x.toNat : Int) := (bt_at ⟨⟨x :: l⟩⟩ 0 (by simpa using h0)).symm
    unfold starB
    rw [e3, e4]
    simp only [h0, decide_true, Bool.true_and]
    by_cases hx : x = 42
    ·subst hx; rfl
    ·rw [beq_eq_false_iff_ne.mpr (by simpa using hx), beq_eq_false_iff_ne.mpr]
     intro q
     apply hx
     apply UInt8.toNat_inj.mp
     have e42 : (42 : UInt8).toNat = 42 := rfl
     omega
  rw [if_pos (by omega), if_pos (by omega), if_pos (by omega), hb]
  simp only [Option.bind_some]
  cases starB t with
  | true => rw [if_pos rfl, if_pos (by omega), if_pos (by omega)]; rfl
  | false => rw [if_neg (by decide)]; rfl
 ·have : starB t = false := by unfold starB; simp [h0]
  rw [if_neg (by omega), this]
  rfl
theorem elem_ev (t : ByteArray) (ht : t.size ≤ 9223372036854775807) : Ev (fun k => kind_Elem.f k t) (elemS t) := by
 refine Ev.one (cutPrefix_one t) ?_
 unfold elemS ptrB
 cases starB t with
 | false => exact Ev.neg (by simp) (Ev.now _)
 | true =>
  refine Ev.pos rfl (Ev.bind (isWord_ev (rest t) (by rw [rest_size]; omega)) ?_)
  cases hw : wordB (rest t) with
  | false => exact Ev.neg (by decide) (Ev.now _)
  | true => exact Ev.pos rfl (Ev.now _)
/-! the links -/
def linksD (fs : List S64) : Nat → Nat → List Int
 | 0, _ => []
 | d + 1, i => if (elemS (fs.getD i z64).f1).2 = true then (i : Int) :: linksD fs d (i + 1) else linksD fs d (i + 1)
def linksL (fs : List S64) : List Int := linksD fs fs.length 0
theorem linksD_len (fs : List S64) : ∀ d i, (linksD fs d i).length ≤ d
 | 0, i => by simp [linksD]
 | d + 1, i => by
  unfold linksD
  have := linksD_len fs d (i + 1)
  split
  ·simp; omega
  ·omega
theorem links_ev (n : ByteArray) (fs : List S64) (hm : fs.length ≤ 4398046511104) (hs : ∀ j : Nat, j < fs.length → (fs.getD j z64).f1.size ≤ 9223372036854775807) : Ev (fun k => kind_Links.f k n fs) (linksL fs) := by
 have key : ∀ (d i : Nat) (acc : List Int), i ≤ fs.length → fs.length - i = d → acc.length ≤ i → Ev (fun k => kind_Links.l0 k acc fs (fs.length : Int) (i : Int)) (acc ++ linksD fs d i) := by
  intro d
  induction d with
  | zero =>
   intro i acc h0 hd ha
   exact Ev.step (fun k => rfl) (Ev.neg (by omega) (Ev.eq (Ev.now _) (by simp [linksD])))
  | succ d ih =>
   intro i acc h0 hd ha
   refine Ev.step (fun k => rfl) (Ev.pos (by omega) (Ev.pos (by omega) (Ev.pos (by omega) (Ev.bind (elem_ev _ (hs i (by omega))) ?_))))
   rw [wrap_succ (by omega) (by omega)]
   unfold linksD
   by_cases h : (elemS (fs.getD i z64).f1).2 = true
   ·rw [if_pos h]
    refine Ev.pos h (Ev.pos (by omega) (Ev.eq (ih (i + 1) (acc ++ [(i : Int)]) (by omega) (by omega) (by simp; omega)) (by simp)))
   ·rw [if_neg h]
    exact Ev.neg h (ih (i + 1) acc (by omega) (by omega) (by omega))
 exact key fs.length 0 [] (by omega) (by omega) (by simp)
def edgeD (l : List S28) (fs : List S64) : Nat → Nat → List (Int × ByteArray)
 | 0, _ => []
 | d + 1, i => if (elemS (fs.getD i z64).f1).2 = true ∧ 0 ≤ findR (nameIs (elemS (fs.getD i z64).f1).1) l then ((i : Int), (elemS (fs.getD i z64).f1).1) :: edgeD l fs d (i + 1) else edgeD l fs d (i + 1)
theorem edgeD_len (l : List S28) (fs : List S64) : ∀ d i, (edgeD l fs d i).length ≤ d
 | 0, i => by simp [edgeD]
 | d + 1, i => by
  unfold edgeD
  have := edgeD_len l fs d (i + 1)
  split
  ·simp; omega
  ·omega
def e40 (K N : Int) (T : ByteArray) (p : Int × ByteArray) : S40 := ⟨⟨K, N, T⟩, p.1, ⟨K, N, p.2⟩⟩
def e42 (K N : Int) (T : ByteArray) (p : Int × ByteArray) : S42 := ⟨⟨K, N, T⟩, p.1, ⟨K, N, p.2⟩⟩
theorem find_of (l : List S28) (s : ByteArray) : kind_Find.f l s = some (placeOf (findR (nameIs s) l)) := rfl
theorem first_loop (l : List S28) (x : Nat) (hx : x < l.length) (K N : Int) (T : ByteArray) (fs : List S64) (hfs : (l.getD x z28).f1 = fs) (hm : fs.length ≤ 1000) (hs : ∀ j : Nat, j < fs.length → (fs.getD j z64).f1.size ≤ 9223372036854775807) :
  ∀ (d i : Nat) (acc : List S40) (pre ks : List Int), i + d = fs.length → ks = pre ++ linksD fs d i → acc.length ≤ i → pre.length ≤ i →
   Ev (fun k => node_First.l0 k l (x : Int) acc ks (ks.length : Int) (pre.length : Int) K N T) (acc ++ (edgeD l fs d i).map (e40 K N T)) := by
 intro d
 induction d with
 | zero =>
  intro i acc pre ks h0 hk ha hp
  have hk' : ks = pre := by rw [hk]; simp [linksD]
  subst hk'
  exact Ev.step (fun k => rfl) (Ev.neg (by omega) (Ev.eq (Ev.now _) (by simp [edgeD])))
 | succ d ih =>
  intro i acc pre ks h0 hk ha hp
  unfold linksD at hk
  unfold edgeD
  by_cases h : (elemS (fs.getD i z64).f1).2 = true
  ·rw [if_pos h] at hk
   have hlen : ks.length = pre.length + 1 + (linksD fs d (i + 1)).length := by rw [hk]; simp; omega
   have hll := linksD_len fs d (i + 1)
   have hrd : rd ks (pre.length : Int) = (i : Int) := by rw [hk]; simp [rd]
   have hfx : (rd_T28 l (x : Int)).f1 = fs := by unfold rd_T28; rw [Int.toNat_natCast]; exact hfs
   have hfi : rd_T64 fs (i : Int) = fs.getD i z64 := by unfold rd_T64; rw [Int.toNat_natCast]
   refine Ev.step (fun k => rfl) (Ev.pos (by omega) (Ev.pos (by omega) (Ev.pos (by omega) (Ev.pos (by omega) (Ev.pos (by omega) (Ev.pos (by rw [hrd]; omega) (Ev.pos (by rw [hrd, hfx]; omega) ?_)))))))
   rw [hrd, hfx, hfi]
   refine Ev.bind (elem_ev _ (hs i (by omega))) (Ev.one (find_of _ _) ?_)
   rw [wrap_succ (by omega) (by omega)]
   by_cases hf : 0 ≤ findR (nameIs (elemS (fs.getD i z64).f1).1) l
   ·rw [if_pos ⟨h, hf⟩]
    refine Ev.pos (by unfold placeOf; rw [if_neg (by omega)]) (Ev.pos (by omega) ?_)
    have := ih (i + 1) (acc ++ [e40 K N T ((i : Int), (elemS (fs.getD i z64).f1).1)]) (pre ++ [(i : Int)]) ks (by omega) (by rw [hk]; simp) (by simp; omega) (by simp; omega)
    rw [List.length_append, List.length_singleton] at this
    exact Ev.eq this (by simp)
   ·rw [if_neg (fun e => hf e.2)]
    refine Ev.neg (by unfold placeOf; rw [if_pos (by omega)]; decide) ?_
    have := ih (i + 1) acc (pre ++ [(i : Int)]) ks (by omega) (by rw [hk]; simp) (by omega) (by simp; omega)
    rw [List.length_append, List.length_singleton] at this
    exact this
  ·rw [if_neg h] at hk
   rw [if_neg (fun e => h e.1)]
   exact ih (i + 1) acc pre ks (by omega) hk (by omega) (by omega)
theorem find_in {α : Type} {p : α → Bool} {l : List α} (h : ¬ findR p l < 0) : ∃ j : Nat, findR p l = (j : Int) ∧ j < l.length := by
 unfold findR at h ⊢
 split
 ·rename_i hh; exact ⟨_, rfl, hh⟩
 ·rename_i hh; rw [if_neg hh] at h; exact absurd (by decide) h
theorem findR_lt {α : Type} (p : α → Bool) (l : List α) : findR p l < 0 ∨ findR p l < (l.length : Int) := by
 by_cases h : findR p l < 0
 ·exact .inl h
 ·obtain ⟨j, h1, h2⟩ := find_in h
  right; omega
def edgesOf (l : List S28) (K : Int) (T : ByteArray) : List (Int × ByteArray) :=
 if findR (nameIs T) l < 0 ∨ K < 2 ∨ K > 4 then [] else edgeD l (l.getD (findR (nameIs T) l).toNat z28).f1 (l.getD (findR (nameIs T) l).toNat z28).f1.length 0
def OkL (l : List S28) : Prop := l.length ≤ 1000 ∧ ∀ x : Nat, x < l.length → (l.getD x z28).f1.length ≤ 1000 ∧ ∀ j : Nat, j < (l.getD x z28).f1.length → ((l.getD x z28).f1.getD j z64).f1.size ≤ 9223372036854775807
theorem j0_none (l : List S28) (x K N : Int) (T : ByteArray) : Ev (fun k => node_First.j0 k l x true K N T) [] :=
 Ev.step (fun k => show node_First.j0 (k + 1) l x true K N T = some [] by simp [node_First.j0]) (Ev.now _)
theorem first_ev (l : List S28) (h : OkL l) (K N : Int) (T : ByteArray) : Ev (fun k => node_First.f k l K N T) ((edgesOf l K T).map (e40 K N T)) := by
 have hlt := findR_lt (nameIs T) l
 refine Ev.one (find_of l T) ?_
 unfold edgesOf
 by_cases h0 : findR (nameIs T) l < 0
 ·rw [if_pos (.inl h0)]
  refine Ev.neg (by unfold placeOf; rw [if_pos h0]; decide) (j0_none _ _ _ _ _)
 ·have hp : placeOf (findR (nameIs T) l) = (findR (nameIs T) l, true) := by unfold placeOf; rw [if_neg h0]
  rw [hp]
  obtain ⟨x, hx⟩ : ∃ x : Nat, findR (nameIs T) l = x := ⟨(findR (nameIs T) l).toNat, by omega⟩
  rw [hx] at hlt h0 ⊢
  have hxl : x < l.length := by omega
  obtain ⟨hm, hs⟩ := h.2 x hxl
  refine Ev.pos rfl ?_
  by_cases h1 : K < 2
  ·rw [if_pos (.inr (.inl h1))]
   exact Ev.pos h1 (j0_none _ _ _ _ _)
  ·refine Ev.neg h1 ?_
   by_cases h2 : K > 4
   ·rw [if_pos (.inr (.inr h2))]
    rw [decide_eq_true h2]; exact j0_none _ _ _ _ _
   ·rw [if_neg (by omega), Int.toNat_natCast]
    have hfx : (rd_T28 l (x : Int)).f1 = (l.getD x z28).f1 := by unfold rd_T28; rw [Int.toNat_natCast]
    refine Ev.step (fun k => rfl) (Ev.neg (by simpa using h2) (Ev.pos (by omega) (Ev.pos (by omega) (Ev.bind (by rw [hfx]; exact links_ev _ _ (by omega) hs) ?_))))
    exact Ev.eq (first_loop l x hxl K N T _ rfl hm hs _ 0 [] [] _ (by omega) rfl (Nat.le_refl _) (Nat.le_refl _)) (by simp)
end Go.Proofs.YtgidnkmlnccaiaaDoor.Q
namespace Go.Proofs.YtgidnkmlnccaiaaDoor.Q
open Go.RowKit Go.Proofs.YtgidnkmlnccaiaaDoorW.PrintWords Go.Proofs.YtgidnkmlnccaiaaDoorW.PrintLast Go.Proofs.YtgidnkmlnccaiaaDoorW.PrintMore
attribute [local go_sem] max2_int min2_int max_two min_two max_three min_three max_four min_four   -- for this text's walks alone
set_option linter.unusedVariables false
set_option linter.unusedSimpArgs false
/-! ### truantref01_Text: function 38 -/
mutual
def truantref01_Text.l0 : Nat → Int → ByteArray → Bool → Option (ByteArray)
 | 0, _, _, _ => none
 | k + 1, x0, x3, x4 => if x3.toList = ([] : List UInt8) then (truantref01_Text.j1 k x0 x3 x4 true) else (truantref01_Text.j1 k x0 x3 x4 (x0 != 0))
def truantref01_Text.j1 : Nat → Int → ByteArray → Bool → Bool → Option (ByteArray)
 | 0, _, _, _, _ => none
 | k + 1, x0, x3, x4, x13 => if x13 = true then (if (Int.tmod x0 10) < 0 then ((some (([(wrap64 (48 + (wrap64 (-(Int.tmod x0 10))))) % 256] : List Int) : List Int)).bind fun y222 => (if (strOfNums y222).size + x3.size ≤ 9223372036854775807 then (truantref01_Text.l0 k (wrap64 (Int.tdiv x0 10)) ((strOfNums y222) ++ x3) x4) else (none))) else ((some (([(wrap64 (48 + (Int.tmod x0 10))) % 256] : List Int) : List Int)).bind fun y225 => (if (strOfNums y225).size + x3.size ≤ 9223372036854775807 then (truantref01_Text.l0 k (wrap64 (Int.tdiv x0 10)) ((strOfNums y225) ++ x3) x4) else (none)))) else (if x4 = true then (if 1 + x3.size ≤ 9223372036854775807 then (some ((⟨#[45]⟩ : ByteArray) ++ x3)) else (none)) else (some x3))
end
def truantref01_Text.f (k : Nat) (a0 : Int) : Option (ByteArray) := truantref01_Text.l0 k a0 (⟨#[]⟩ : ByteArray) (decide (a0 < 0))
theorem truantref01_Text.mono_l : ∀ k, (∀ y0 y1 y2, LeO (truantref01_Text.l0 k y0 y1 y2) (truantref01_Text.l0 (k + 1) y0 y1 y2)) ∧ (∀ y0 y1 y2 y3, LeO (truantref01_Text.j1 k y0 y1 y2 y3) (truantref01_Text.j1 (k + 1) y0 y1 y2 y3))
 | 0 => ⟨fun _ _ _ r h => by simp [truantref01_Text.l0] at h, fun _ _ _ _ r h => by simp [truantref01_Text.j1] at h⟩
 | k + 1 => by
  obtain ⟨ih0, ih1⟩ := truantref01_Text.mono_l k
  refine ⟨?_, ?_⟩
  ·intro y0 y1 y2
   unfold truantref01_Text.l0
   repeat' first
   | (with_reducible exact ih0 _ _ _)
   | (with_reducible exact ih1 _ _ _ _)
   | (with_reducible exact LeO.refl _)
   | (with_reducible exact LeO.none _)
   | (with_reducible refine LeO.ite ?_ ?_)
   | (with_reducible refine LeO.bind ?_ (fun _ => ?_))
   | exact ih0 _ _ _
   | exact ih1 _ _ _ _
   | exact LeO.none _
   | refine LeO.ite ?_ ?_
   | refine LeO.bind ?_ (fun _ => ?_)
  ·intro y0 y1 y2 y3
   unfold truantref01_Text.j1
   repeat' first
   | (with_reducible exact ih0 _ _ _)
   | (with_reducible exact ih1 _ _ _ _)
   | (with_reducible exact LeO.refl _)
   | (with_reducible exact LeO.none _)
   | (with_reducible refine LeO.ite ?_ ?_)
   | (with_reducible refine LeO.bind ?_ (fun _ => ?_))
   | exact ih0 _ _ _
   | exact ih1 _ _ _ _
   | exact LeO.none _
   | refine LeO.ite ?_ ?_
   | refine LeO.bind ?_ (fun _ => ?_)
theorem truantref01_Text.mono : ∀ a0 k, LeO (truantref01_Text.f k a0) (truantref01_Text.f (k + 1) a0) := by
 intro a0 k
 obtain ⟨ih0, ih1⟩ := truantref01_Text.mono_l k
 unfold truantref01_Text.f
 repeat' first
   | (with_reducible exact ih0 _ _ _)
   | (with_reducible exact ih1 _ _ _ _)
   | (with_reducible exact LeO.refl _)
   | (with_reducible exact LeO.none _)
   | (with_reducible refine LeO.ite ?_ ?_)
   | (with_reducible refine LeO.bind ?_ (fun _ => ?_))
   | exact ih0 _ _ _
   | exact ih1 _ _ _ _
   | exact LeO.none _
   | refine LeO.ite ?_ ?_
   | refine LeO.bind ?_ (fun _ => ?_)
set_option maxHeartbeats 8000000 in
set_option maxRecDepth 100000 in
theorem truantref01_Text.calls (k : Nat) (a0 : Int) (r : ByteArray) (w : World) (h : truantref01_Text.f k a0 = some r) :
  Calls Tryd.prog 38 #[.int .i64 a0] w fun e w' => e = .returned (.string r) ∧ Below w.heap.size w w' := by
 have HB := Aside0.mk (Below.refl w.heap.size w)
 have H : (truantref01_Text.l0 k a0 (⟨#[]⟩ : ByteArray) (decide (a0 < 0))) = some r := h
 clear h
 have H' := Aside0.mk H
 clear H
 go_enter Tryd.func38, Tryd.ntmps38
 go_wp2
 go_loopg [0, 3] k (fun kq v0 v3 w' => ∃ (x0_1 : Int) (x3_1 : ByteArray), v0 = .int .i64 x0_1 ∧ v3 = .string x3_1 ∧ Aside0 (truantref01_Text.l0 kq x0_1 x3_1 (decide (a0 < 0)) = some r) ∧ Aside0 (kq ≤ k) ∧ Aside0 (Below w.heap.size w w'))
 case atStart => exact ⟨(a0), ((⟨#[]⟩ : ByteArray)), (by first | rfl | (simp; done) | (simp [*]; done)), (by first | rfl | (simp; done) | (simp [*]; done)), H', ⟨Nat.le_refl _⟩, ⟨by repeat (first | (with_reducible first | exact HB.out | apply below_alloc | apply pw_below_drewN | apply below_drew1) | exact HB.out)⟩⟩
 case round =>
  clear H'
  obtain ⟨x0_1, x3_1, rfl, rfl, HA, HK1, HB⟩ := hrel
  cases gk with
  | zero => exact absurd HA.out (by simp [truantref01_Text.l0])
  | succ k1 =>
   have H := HA.out
   clear HA
   simp only [truantref01_Text.l0] at H
   have HC2 := Aside0.mk H
   clear H
   go_upto_region 3 with (fail)
   go_cut [13] (fun v13 wc => ∃ (kq : Nat) (x13_1 : Bool), v13 = .bool x13_1 ∧ Aside0 (truantref01_Text.j1 kq x0_1 x3_1 (decide (a0 < 0)) x13_1 = some r) ∧ Aside0 (kq ≤ k1) ∧ Aside0 (Below w.heap.size w wc))
   case first =>
    have H := HC2.out
    clear HC2
    by_cases c3 : x3_1.toList = ([] : List UInt8)
    ·rw [if_pos c3] at H
     have c3b0 : (x3_1.toList == ([] : List UInt8)) = true := beq_iff_eq.mpr c3
     try have c3b4 : (!(x3_1).toList.isEmpty) = false := by simpa using c3b0
     have c3b1 : (x3_1.toList != ([] : List UInt8)) = false := bne_eq_false_iff_eq.mpr c3
     clear c3
     (first | rw [c3b0] | rw [c3b1] | rw [c3b4] | (simp only [i64_w, i32_w]; rw [c3b0]) | skip)
     have H' := Aside0.mk H
     clear H
     go_wp2
     go_meet
     case rel => exact ⟨_, (true), (by first | rfl | (simp; done) | (simp [*]; done)), H', ⟨by have := HK1.out; first | omega | exact Nat.le_refl _⟩, ⟨by repeat (first | (with_reducible first | exact HB.out | apply below_alloc | apply pw_below_drewN | apply below_drew1) | exact HB.out)⟩⟩
    ·rw [if_neg c3] at H
     have c3b0 : (x3_1.toList == ([] : List UInt8)) = false := beq_eq_false_iff_ne.mpr c3
     try have c3b4 : (!(x3_1).toList.isEmpty) = true := by simpa using c3b0
     have c3b1 : (x3_1.toList != ([] : List UInt8)) = true := bne_iff_ne.mpr c3
     (first | rw [c3b0] | rw [c3b1] | rw [c3b4] | (simp only [i64_w, i32_w]; rw [c3b0]) | skip)
     have H' := Aside0.mk H
     clear H
     go_wp2
     go_meet
     case rel => exact ⟨_, ((x0_1 != 0)), (by first | rfl | (simp; done) | (simp [*]; done)), H', ⟨by have := HK1.out; first | omega | exact Nat.le_refl _⟩, ⟨by repeat (first | (with_reducible first | exact HB.out | apply below_alloc | apply pw_below_drewN | apply below_drew1) | exact HB.out)⟩⟩
   case rest =>
    clear HC2
    try clear p2
    try clear c3
    try clear c3b0
    try clear c3b1
    obtain ⟨kq, x13_1, rfl, HA, HJ1, HB⟩ := hcut
    cases kq with
    | zero => exact absurd HA.out (by simp [truantref01_Text.j1])
    | succ kj1 =>
     have H := HA.out
     clear HA
     simp only [truantref01_Text.j1] at H
     by_cases c4 : x13_1 = true
     ·subst c4
      have H1 : (if (Int.tmod x0_1 10) < 0 then ((some (([(wrap64 (48 + (wrap64 (-(Int.tmod x0_1 10))))) % 256] : List Int) : List Int)).bind fun y222 => (if (strOfNums y222).size + x3_1.size ≤ 9223372036854775807 then (truantref01_Text.l0 kj1 (wrap64 (Int.tdiv x0_1 10)) ((strOfNums y222) ++ x3_1) (decide (a0 < 0))) else (none))) else ((some (([(wrap64 (48 + (Int.tmod x0_1 10))) % 256] : List Int) : List Int)).bind fun y225 => (if (strOfNums y225).size + x3_1.size ≤ 9223372036854775807 then (truantref01_Text.l0 kj1 (wrap64 (Int.tdiv x0_1 10)) ((strOfNums y225) ++ x3_1) (decide (a0 < 0))) else (none)))) = some r := by rw [if_pos rfl] at H; exact H
      clear H
      have H := H1
      clear H1
      by_cases c5 : (Int.tmod x0_1 10) < 0
      ·rw [if_pos c5] at H
       have c5b0 : decide ((Int.tmod x0_1 10) < 0) = true := decide_eq_true c5
       clear c5
       obtain ⟨y222, hy222⟩ : ∃ y_ : List Int, y_ = (([(wrap64 (48 + (wrap64 (-(Int.tmod x0_1 10))))) % 256] : List Int)) := ⟨_, rfl⟩
       replace H : (if (strOfNums y222).size + x3_1.size ≤ 9223372036854775807 then (truantref01_Text.l0 kj1 (wrap64 (Int.tdiv x0_1 10)) ((strOfNums y222) ++ x3_1) (decide (a0 < 0))) else (none)) = some r := by first | (rw [hy222]; with_reducible exact H) | (have H2_ := (Option.bind_some _ _).symm.trans H; rw [hy222]; with_reducible exact H2_) | (have H2_ := (Option.bind_some _ _).symm.trans H; with_reducible exact H2_) | with_reducible exact H | (rw [hy222]; exact H) | exact H
       have Ny222 := Aside0.mk hy222
       clear hy222
       by_cases c6 : (strOfNums y222).size + x3_1.size ≤ 9223372036854775807
       ·rw [if_pos c6] at H
        have c6b0 := eq_true c6
        have c6b1 : decide ((strOfNums y222).size + x3_1.size ≤ 9223372036854775807) = true := decide_eq_true c6
        try have c6b2 : (9223372036854775807 < (strOfNums y222).size + x3_1.size) = False := eq_false (Nat.not_lt.2 c6)
        have H' := Aside0.mk H
        clear H
        go_wp2_with (first | ((with_reducible refine gate_dst (N := 23) rfl ?_); refine Kd.R_lit (Kd.int .u8) _ 5 ?hg (N := 23) ?hd (xs := ([(wrap64 (48 + (wrap64 (-(Int.tmod x0_1 10))))) % 256] : List Int)) (inner := [.int .u8 ((wrap64 (48 + (wrap64 (-(Int.tmod x0_1 10))))) % 256)]) (ok := fun _ => True) (okp := fun _ => True) ?hr ?hp (fun _ hk => hk) trivial (Below.refl _ _) (Nat.le_refl _) (by simp) ?_; (case hd => rfl); (case hg => rfl); (case hr => first | (go_simp; done) | (go_simp; rfl)); (case hp => exact (Reps.one (show Kd.M (Kd.int .u8) _ _ _ ((wrap64 (48 + (wrap64 (-(Int.tmod x0_1 10))))) % 256) [.int .u8 ((wrap64 (48 + (wrap64 (-(Int.tmod x0_1 10))))) % 256)] from rfl) (Reps.none _ _))); intro v223 w7 ho8 hb hg_ hnew_; clear hg_ hnew_; (first | rw [← Ny222.out] at ho8 | (simp only [Int.reduceToNat] at ho8; rw [← Ny222.out] at ho8)); have n0_ := Aside0.mk (Kd.R_lower ho8 (below_size (by repeat (first | (with_reducible first | exact HB.out | apply below_alloc | apply pw_below_drewN | apply below_drew1) | exact HB.out)))); have n1_ := Aside0.mk (below_step (by repeat (first | (with_reducible first | exact HB.out | apply below_alloc | apply pw_below_drewN | apply below_drew1) | exact HB.out)) hb); clear HB; have HO224 := n0_; have HB := n1_; clear n0_ n1_; clear hb ho8; have hcv9 := own_string (P := Tryd.prog) Tryd.underlying90 Tryd.underlying5 Tryd.underlying9 (Kd.own_of_R HO224.out)))
        go_roundg kj1
        case measure => have := HK1.out; have := HJ1.out; omega
        case rel => exact ⟨(wrap64 (Int.tdiv x0_1 10)), ((strOfNums y222) ++ x3_1), (by first | rfl | (simp; done) | (simp [*]; done)), (by first | rfl | (simp; done) | (simp [*]; done)), H', ⟨by have := HK1.out; have := HJ1.out; omega⟩, ⟨by repeat (first | (with_reducible first | exact HB.out | apply below_alloc | apply pw_below_drewN | apply below_drew1) | exact HB.out)⟩⟩
       ·rw [if_neg c6] at H
        exact absurd H (by simp)
      ·rw [if_neg c5] at H
       have c5b0 : decide ((Int.tmod x0_1 10) < 0) = false := decide_eq_false c5
       clear c5
       obtain ⟨y225, hy225⟩ : ∃ y_ : List Int, y_ = (([(wrap64 (48 + (Int.tmod x0_1 10))) % 256] : List Int)) := ⟨_, rfl⟩
       replace H : (if (strOfNums y225).size + x3_1.size ≤ 9223372036854775807 then (truantref01_Text.l0 kj1 (wrap64 (Int.tdiv x0_1 10)) ((strOfNums y225) ++ x3_1) (decide (a0 < 0))) else (none)) = some r := by first | (rw [hy225]; with_reducible exact H) | (have H2_ := (Option.bind_some _ _).symm.trans H; rw [hy225]; with_reducible exact H2_) | (have H2_ := (Option.bind_some _ _).symm.trans H; with_reducible exact H2_) | with_reducible exact H | (rw [hy225]; exact H) | exact H
       have Ny225 := Aside0.mk hy225
       clear hy225
       by_cases c10 : (strOfNums y225).size + x3_1.size ≤ 9223372036854775807
       ·rw [if_pos c10] at H
        have c10b0 := eq_true c10
        have c10b1 : decide ((strOfNums y225).size + x3_1.size ≤ 9223372036854775807) = true := decide_eq_true c10
        try have c10b2 : (9223372036854775807 < (strOfNums y225).size + x3_1.size) = False := eq_false (Nat.not_lt.2 c10)
        have H' := Aside0.mk H
        clear H
        go_wp2_with (first | ((with_reducible refine gate_dst (N := 23) rfl ?_); refine Kd.R_lit (Kd.int .u8) _ 5 ?hg (N := 23) ?hd (xs := ([(wrap64 (48 + (Int.tmod x0_1 10))) % 256] : List Int)) (inner := [.int .u8 ((wrap64 (48 + (Int.tmod x0_1 10))) % 256)]) (ok := fun _ => True) (okp := fun _ => True) ?hr ?hp (fun _ hk => hk) trivial (Below.refl _ _) (Nat.le_refl _) (by simp) ?_; (case hd => rfl); (case hg => rfl); (case hr => first | (go_simp; done) | (go_simp; rfl)); (case hp => exact (Reps.one (show Kd.M (Kd.int .u8) _ _ _ ((wrap64 (48 + (Int.tmod x0_1 10))) % 256) [.int .u8 ((wrap64 (48 + (Int.tmod x0_1 10))) % 256)] from rfl) (Reps.none _ _))); intro v226 w11 ho12 hb hg_ hnew_; clear hg_ hnew_; (first | rw [← Ny225.out] at ho12 | (simp only [Int.reduceToNat] at ho12; rw [← Ny225.out] at ho12)); have n0_ := Aside0.mk (Kd.R_lower ho12 (below_size (by repeat (first | (with_reducible first | exact HB.out | apply below_alloc | apply pw_below_drewN | apply below_drew1) | exact HB.out)))); have n1_ := Aside0.mk (below_step (by repeat (first | (with_reducible first | exact HB.out | apply below_alloc | apply pw_below_drewN | apply below_drew1) | exact HB.out)) hb); clear HB; have HO227 := n0_; have HB := n1_; clear n0_ n1_; clear hb ho12; have hcv13 := own_string (P := Tryd.prog) Tryd.underlying90 Tryd.underlying5 Tryd.underlying9 (Kd.own_of_R HO227.out)))
        go_roundg kj1
        case measure => have := HK1.out; have := HJ1.out; omega
        case rel => exact ⟨(wrap64 (Int.tdiv x0_1 10)), ((strOfNums y225) ++ x3_1), (by first | rfl | (simp; done) | (simp [*]; done)), (by first | rfl | (simp; done) | (simp [*]; done)), H', ⟨by have := HK1.out; have := HJ1.out; omega⟩, ⟨by repeat (first | (with_reducible first | exact HB.out | apply below_alloc | apply pw_below_drewN | apply below_drew1) | exact HB.out)⟩⟩
       ·rw [if_neg c10] at H
        exact absurd H (by simp)
     ·replace c4 := Bool.eq_false_iff.mpr c4
      subst c4
      have H1 : (if (decide (a0 < 0)) = true then (if 1 + x3_1.size ≤ 9223372036854775807 then (some ((⟨#[45]⟩ : ByteArray) ++ x3_1)) else (none)) else (some x3_1)) = some r := by rw [if_neg (show ¬ (false = true) by decide)] at H; exact H
      clear H
      have H := H1
      clear H1
      by_cases c14 : (decide (a0 < 0)) = true
      ·rw [if_pos c14] at H
       have c14b0 : (decide (a0 < 0)) = true := c14
       have c14p := of_decide_eq_true c14
       clear c14
       by_cases c15 : 1 + x3_1.size ≤ 9223372036854775807
       ·rw [if_pos c15] at H
        have c15b0 := eq_true c15
        have c15b1 : decide (1 + x3_1.size ≤ 9223372036854775807) = true := decide_eq_true c15
        try have c15b2 : (9223372036854775807 < 1 + x3_1.size) = False := eq_false (Nat.not_lt.2 c15)
        obtain rfl := Option.some.inj H
        go_wp2
        go_ret
        exact ⟨by first | rfl | (simp [errW_none, errW_some] <;> rfl) | (simp [*, errW_none, errW_some] <;> rfl), by repeat (first | (with_reducible first | exact HB.out | apply below_alloc | apply pw_below_drewN | apply below_drew1) | exact HB.out)⟩
       ·rw [if_neg c15] at H
        exact absurd H (by simp)
      ·rw [if_neg c14] at H
       have c14b0 : (decide (a0 < 0)) = false := by simpa using c14
       have c14p := of_decide_eq_false c14b0
       clear c14
       obtain rfl := Option.some.inj H
       go_wp2
       go_ret
       exact ⟨by first | rfl | (simp [errW_none, errW_some] <;> rfl) | (simp [*, errW_none, errW_some] <;> rfl), by repeat (first | (with_reducible first | exact HB.out | apply below_alloc | apply pw_below_drewN | apply below_drew1) | exact HB.out)⟩
end Go.Proofs.YtgidnkmlnccaiaaDoor.Q
/- The document's Text: the same digits. By hand. -/
namespace Go.Proofs.YtgidnkmlnccaiaaDoor.Q
open Go.RowKit Go.Proofs.YtgidnkmlnccaiaaDoorW.PrintWords Go.Proofs.YtgidnkmlnccaiaaDoorW.PrintLast Go.Proofs.YtgidnkmlnccaiaaDoorW.PrintMore
set_option linter.unusedVariables false
set_option linter.unusedSimpArgs false
def R64 (x : Int) : Prop := -9223372036854775808 ≤ x ∧ x ≤ 9223372036854775807
/-- What is left to write: the digits of n, ahead of s; and the sign. -/
def signed (b : Bool) (l : List UInt8) : List UInt8 := if b then 45 :: l else l
def wordL (K : Int) : List UInt8 := if K = 1 then [115, 105, 116, 101] else if K = 2 then [111, 117, 116, 101, 114] else if K = 3 then [99, 97, 108, 108, 101, 101] else [101, 118, 101, 114, 121]
def textL (K N : Int) (T : ByteArray) : List UInt8 := if K < 1 ∨ K > 4 then [] else if K = 1 ∨ K = 3 then wordL K ++ 32 :: (Lib.itoa N ++ 32 :: T.toList) else wordL K ++ 32 :: T.toList
theorem mk_tl (l : List UInt8) : (⟨l.toArray⟩ : ByteArray).toList = l := by rw [Lib.toList_data]
theorem join2 (a b : ByteArray) (ha : a.size ≤ 100) (hb : b.size ≤ 1000) : strings_Join.f [a, b] ⟨#[32]⟩ = some ⟨(a.toList ++ 32 :: b.toList).toArray⟩ := by
 have h1 := tl_len a; have h2 := tl_len b
 have e : Lib.join ([a, b].map (·.data.toList)) (⟨#[32]⟩ : ByteArray).data.toList = a.toList ++ 32 :: b.toList := by
  rw [Lib.toList_data, Lib.toList_data]; simp [Lib.join, List.intercalate]
 unfold strings_Join.f
 rw [e, if_pos ⟨by simp, by simp; omega⟩]
theorem join3 (a b c : ByteArray) (ha : a.size ≤ 100) (hb : b.size ≤ 1000) (hc : c.size ≤ 1000) : strings_Join.f [a, b, c] ⟨#[32]⟩ = some ⟨(a.toList ++ 32 :: (b.toList ++ 32 :: c.toList)).toArray⟩ := by
 have h1 := tl_len a; have h2 := tl_len b; have h3 := tl_len c
 have e : Lib.join ([a, b, c].map (·.data.toList)) (⟨#[32]⟩ : ByteArray).data.toList = a.toList ++ 32 :: (b.toList ++ 32 :: c.toList) := by
  rw [Lib.toList_data, Lib.toList_data, Lib.toList_data]; simp [Lib.join, List.intercalate]
 unfold strings_Join.f
 rw [e, if_pos ⟨by simp, by simp; omega⟩]
theorem itoa_f {N : Int} (h : R64 N) : strconv_Itoa_36.f N = some ⟨(Lib.itoa N).toArray⟩ := if_pos h
theorem itoa_sz {N : Int} (h : R64 N) : (⟨(Lib.itoa N).toArray⟩ : ByteArray).size ≤ 21 := by
 have := Lib.itoa_length_le N h.1 h.2
 have e := tl_len (⟨(Lib.itoa N).toArray⟩ : ByteArray)
 rw [mk_tl (Lib.itoa N)] at e; omega
theorem text_j1 (w : ByteArray) (hw : w.size ≤ 100) (b : Bool) (K N : Int) (T : ByteArray) (hN : R64 N) (hT : T.size ≤ 1000) :
  Ev (fun k => node_Text.j1 k [w] b K N T) (if b = true then ⟨(w.toList ++ 32 :: (Lib.itoa N ++ 32 :: T.toList)).toArray⟩ else ⟨(w.toList ++ 32 :: T.toList).toArray⟩) := by
 have hi := itoa_sz hN
 cases b with
 | true =>
  rw [if_pos rfl]
  have h3 := join3 w ⟨(Lib.itoa N).toArray⟩ T hw (by omega) hT
  rw [mk_tl (Lib.itoa N)] at h3
  refine Ev.step (fun k => show node_Text.j1 (k + 1) [w] true K N T = some _ from ?_) (Ev.now _)
  simp [node_Text.j1, itoa_f hN, h3]
 | false =>
  rw [if_neg (by decide)]
  refine Ev.step (fun k => show node_Text.j1 (k + 1) [w] false K N T = some _ from ?_) (Ev.now _)
  simp [node_Text.j1, join2 w T hw hT]
theorem text_ev (K N : Int) (T : ByteArray) (hN : R64 N) (hT : T.size ≤ 1000) : Ev (fun k => node_Text.f k K N T) ⟨(textL K N T).toArray⟩ := by
 have j0n : Ev (fun k => node_Text.j0 k true K N T) (⟨#[]⟩ : ByteArray) := Ev.step (fun k => show node_Text.j0 (k + 1) true K N T = some ⟨#[]⟩ by simp [node_Text.j0]) (Ev.now _)
 unfold textL
 by_cases h1 : K < 1
 ·rw [if_pos (.inl h1)]
  exact Ev.pos h1 j0n
 ·refine Ev.neg h1 ?_
  by_cases h4 : K > 4
  ·rw [if_pos (.inr h4), decide_eq_true h4]
   exact j0n
  ·rw [if_neg (by omega), decide_eq_false h4]
   have hk : K = 1 ∨ K = 2 ∨ K = 3 ∨ K = 4 := by omega
   rcases hk with rfl | rfl | rfl | rfl
   ·refine Ev.eq (Ev.step (fun k => show node_Text.j0 (k + 1) false 1 N T = node_Text.j1 k [⟨#[115, 105, 116, 101]⟩] true 1 N T by simp [node_Text.j0, rdOf]) (text_j1 ⟨#[115, 105, 116, 101]⟩ (by decide) true 1 N T hN hT)) ?_
    rw [if_pos rfl, if_pos (.inl rfl)]; simp [wordL, Lib.toList_data]
   ·refine Ev.eq (Ev.step (fun k => show node_Text.j0 (k + 1) false 2 N T = node_Text.j1 k [⟨#[111, 117, 116, 101, 114]⟩] false 2 N T by simp [node_Text.j0, rdOf]) (text_j1 ⟨#[111, 117, 116, 101, 114]⟩ (by decide) false 2 N T hN hT)) ?_
    rw [if_neg (by decide), if_neg (by decide)]; simp [wordL, Lib.toList_data]
   ·refine Ev.eq (Ev.step (fun k => show node_Text.j0 (k + 1) false 3 N T = node_Text.j1 k [⟨#[99, 97, 108, 108, 101, 101]⟩] true 3 N T by simp [node_Text.j0, rdOf]) (text_j1 ⟨#[99, 97, 108, 108, 101, 101]⟩ (by decide) true 3 N T hN hT)) ?_
    rw [if_pos rfl, if_pos (.inr rfl)]; simp [wordL, Lib.toList_data]
   ·refine Ev.eq (Ev.step (fun k => show node_Text.j0 (k + 1) false 4 N T = node_Text.j1 k [⟨#[101, 118, 101, 114, 121]⟩] false 4 N T by simp [node_Text.j0, rdOf]) (text_j1 ⟨#[101, 118, 101, 114, 121]⟩ (by decide) false 4 N T hN hT)) ?_
    rw [if_neg (by decide), if_neg (by decide)]; simp [wordL, Lib.toList_data]
def IsDig (c : UInt8) : Prop := 48 ≤ c.toNat ∧ c.toNat ≤ 57
def dstep (a : Nat) (c : UInt8) : Nat := a * 10 + (c.toNat - 48)
def dval (acc : Nat) (l : List UInt8) : Nat := l.foldl dstep acc
theorem dval_snoc (l : List UInt8) (c : UInt8) (acc : Nat) : dval acc (l ++ [c]) = dval acc l * 10 + (c.toNat - 48) := by unfold dval; rw [List.foldl_append]; rfl
theorem ofNat_dig {d : Nat} (h : d < 10) : (UInt8.ofNat (48 + d)).toNat = 48 + d := by
 rw [UInt8.toNat_ofNat']; omega
theorem dec_dig : ∀ (u : Nat) (c : UInt8), c ∈ Lib.decDigits u → IsDig c := by
 intro u
 induction u using Nat.strongRecOn with
 | _ u ih =>
  intro c hc
  rw [Lib.decDigits] at hc
  split at hc
  ·rename_i h
   obtain rfl := List.mem_singleton.mp hc
   rw [IsDig, ofNat_dig h]; omega
  ·rcases List.mem_append.mp hc with h | h
   ·exact ih (u / 10) (by omega) c h
   ·obtain rfl := List.mem_singleton.mp h
    rw [IsDig, ofNat_dig (by omega)]; omega
theorem dec_val : ∀ u : Nat, dval 0 (Lib.decDigits u) = u := by
 intro u
 induction u using Nat.strongRecOn with
 | _ u ih =>
  rw [Lib.decDigits]
  split
  ·rename_i h
   show 0 * 10 + ((UInt8.ofNat (48 + u)).toNat - 48) = u
   rw [ofNat_dig h]; omega
  ·rw [dval_snoc, ih (u / 10) (by omega), ofNat_dig (by omega)]; omega
theorem dec_inj {u v : Nat} (h : Lib.decDigits u = Lib.decDigits v) : u = v := by rw [← dec_val u, ← dec_val v, h]
theorem itoa_no32 (n : Int) : (32 : UInt8) ∉ Lib.itoa n := by
 intro h
 unfold Lib.itoa at h
 split at h
 ·rcases List.mem_cons.mp h with h | h
  ·exact absurd h (by decide)
  ·exact absurd (dec_dig _ _ h) (by unfold IsDig; decide)
 ·exact absurd (dec_dig _ _ h) (by unfold IsDig; decide)
theorem itoa_inj {n m : Int} (h : Lib.itoa n = Lib.itoa m) : n = m := by
 unfold Lib.itoa at h
 have hno : ∀ (u v : Nat), (45 : UInt8) :: Lib.decDigits u ≠ Lib.decDigits v := fun u v e => absurd (dec_dig v 45 (e ▸ List.mem_cons_self)) (by unfold IsDig; decide)
 by_cases h1 : n < 0
 ·rw [if_pos h1] at h
  by_cases h2 : m < 0
  ·rw [if_pos h2] at h
   have := dec_inj (List.cons.inj h).2
   omega
  ·rw [if_neg h2] at h; exact absurd h (hno _ _)
 ·rw [if_neg h1] at h
  by_cases h2 : m < 0
  ·rw [if_pos h2] at h; exact absurd h.symm (hno _ _)
  ·rw [if_neg h2] at h
   have := dec_inj h
   omega
theorem cut32 : ∀ {a a' b b' : List UInt8}, (32 : UInt8) ∉ a → (32 : UInt8) ∉ a' → a ++ 32 :: b = a' ++ 32 :: b' → a = a' ∧ b = b'
 | [], [], _, _, _, _, h => ⟨rfl, (List.cons.inj h).2⟩
 | [], x :: a', _, _, _, h2, h => absurd ((List.cons.inj h).1 ▸ List.mem_cons_self) h2
 | x :: a, [], _, _, h1, _, h => absurd ((List.cons.inj h).1 ▸ List.mem_cons_self) h1
 | x :: a, y :: a', _, _, h1, h2, h => by
  obtain ⟨rfl, ht⟩ := List.cons.inj h
  obtain ⟨rfl, rfl⟩ := cut32 (fun e => h1 (List.mem_cons_of_mem _ e)) (fun e => h2 (List.mem_cons_of_mem _ e)) ht
  exact ⟨rfl, rfl⟩
theorem textL_ne (K N : Int) (T : ByteArray) (h1 : 1 ≤ K) (h4 : K ≤ 4) : textL K N T ≠ [] := by
 unfold textL
 rw [if_neg (by omega)]
 split <;> simp
theorem textL_inj (K N : Int) (T : ByteArray) (K' N' : Int) (T' : ByteArray) (h1 : 1 ≤ K) (h4 : K ≤ 4) (h1' : 1 ≤ K') (h4' : K' ≤ 4) (hz : K = 2 ∨ K = 4 → N = 0) (hz' : K' = 2 ∨ K' = 4 → N' = 0)
  (h : textL K N T = textL K' N' T') : K = K' ∧ N = N' ∧ T = T' := by
 unfold textL at h
 have e1 : ¬ (K < 1 ∨ K > 4) := by omega
 have e2 : ¬ (K' < 1 ∨ K' > 4) := by omega
 rw [if_neg e1, if_neg e2] at h
 clear e1 e2
 have hk : K = 1 ∨ K = 2 ∨ K = 3 ∨ K = 4 := by omega
 have hk' : K' = 1 ∨ K' = 2 ∨ K' = 3 ∨ K' = 4 := by omega
 rcases hk with rfl | rfl | rfl | rfl <;> rcases hk' with rfl | rfl | rfl | rfl <;> simp [wordL] at h
 ·obtain ⟨e1, e2⟩ := cut32 (itoa_no32 N) (itoa_no32 N') h
  exact ⟨rfl, itoa_inj e1, bytes_eq e2⟩
 ·exact ⟨rfl, (hz (.inl rfl)).trans (hz' (.inl rfl)).symm, bytes_eq h⟩
 ·obtain ⟨e1, e2⟩ := cut32 (itoa_no32 N) (itoa_no32 N') h
  exact ⟨rfl, itoa_inj e1, bytes_eq e2⟩
 ·exact ⟨rfl, (hz (.inr rfl)).trans (hz' (.inr rfl)).symm, bytes_eq h⟩
theorem plain_l0 (K N : Int) (T : ByteArray) (hT : T.size ≤ 100) : ∀ (d i : Nat), i + d = T.size → ∃ b, Ev (fun k => truantlaw18_plain.l0 k (i : Int) K N T) b := by
 intro d
 induction d with
 | zero => intro i h0; exact ⟨true, Ev.step (fun k => rfl) (Ev.neg (by omega) (Ev.now _))⟩
 | succ d ih =>
  intro i h0
  obtain ⟨b, hb⟩ := ih (i + 1) (by omega)
  by_cases h : bt T (i : Int) = 32
  ·exact ⟨false, Ev.step (fun k => rfl) (Ev.pos (by omega) (Ev.pos (by omega) (Ev.pos h (Ev.now _))))⟩
  ·refine ⟨b, Ev.step (fun k => rfl) (Ev.pos (by omega) (Ev.pos (by omega) (Ev.neg h ?_)))⟩
   rw [wrap_succ (by omega) (by omega)]
   exact hb
def OkN (K N : Int) (T : ByteArray) : Prop := 1 ≤ K ∧ K ≤ 4 ∧ (K = 2 ∨ K = 4 → N = 0) ∧ T.size ≤ 100
theorem plain_ev (K N : Int) (T : ByteArray) : ∃ b, Ev (fun k => truantlaw18_plain.f k K N T) b ∧ (b = true → OkN K N T) := by
 have jt : Ev (fun k => truantlaw18_plain.j0 k true K N T) false := Ev.step (fun k => show truantlaw18_plain.j0 (k + 1) true K N T = some false by simp [truantlaw18_plain.j0]) (Ev.now _)
 have no : ∀ {b : Bool}, b = false → (b = true → OkN K N T) := fun h h' => by rw [h] at h'; cases h'
 have jf : T.size ≤ 100 → ∃ b, Ev (fun k => truantlaw18_plain.j0 k false K N T) b := fun hT => by
  obtain ⟨b, hb⟩ := plain_l0 K N T hT T.size 0 (by omega)
  exact ⟨b, Ev.step (fun k => show truantlaw18_plain.j0 (k + 1) false K N T = truantlaw18_plain.l0 k ((0 : Nat) : Int) K N T by simp [truantlaw18_plain.j0]) hb⟩
 by_cases h1 : K < 1
 ·exact ⟨false, Ev.pos h1 jt, no rfl⟩
 ·by_cases h4 : K > 4
  ·exact ⟨false, Ev.neg h1 (Ev.pos h4 jt), no rfl⟩
  ·by_cases hz : (T.size : Int) = 0
   ·exact ⟨false, Ev.neg h1 (Ev.neg h4 (Ev.pos hz jt)), no rfl⟩
   ·by_cases h100 : (T.size : Int) > 100
    ·exact ⟨false, Ev.neg h1 (Ev.neg h4 (Ev.neg hz (Ev.pos h100 jt))), no rfl⟩
    ·obtain ⟨b, hb⟩ := jf (by omega)
     by_cases h2 : K = 2
     ·by_cases hN : N = 0
      ·exact ⟨b, Ev.neg h1 (Ev.neg h4 (Ev.neg hz (Ev.neg h100 (Ev.pos h2 (by rw [show (N != 0) = false by simp [hN]]; exact hb))))), fun _ => ⟨by omega, by omega, fun _ => hN, by omega⟩⟩
      ·exact ⟨false, Ev.neg h1 (Ev.neg h4 (Ev.neg hz (Ev.neg h100 (Ev.pos h2 (by rw [show (N != 0) = true by simp [hN]]; exact jt))))), no rfl⟩
     ·by_cases h3 : K = 4
      ·by_cases hN : N = 0
       ·exact ⟨b, Ev.neg h1 (Ev.neg h4 (Ev.neg hz (Ev.neg h100 (Ev.neg h2 (Ev.pos h3 (by rw [show (N != 0) = false by simp [hN]]; exact hb)))))), fun _ => ⟨by omega, by omega, fun _ => hN, by omega⟩⟩
       ·exact ⟨false, Ev.neg h1 (Ev.neg h4 (Ev.neg hz (Ev.neg h100 (Ev.neg h2 (Ev.pos h3 (by rw [show (N != 0) = true by simp [hN]]; exact jt)))))), no rfl⟩
      ·exact ⟨b, Ev.neg h1 (Ev.neg h4 (Ev.neg hz (Ev.neg h100 (Ev.neg h2 (Ev.neg h3 hb))))), fun _ => ⟨by omega, by omega, fun h => by omega, by omega⟩⟩
theorem edgeD_up (l : List S28) (fs : List S64) : ∀ d i, (∀ p ∈ edgeD l fs d i, (i : Int) ≤ p.1) ∧ (edgeD l fs d i).Pairwise (fun p q => p.1 < q.1)
 | 0, i => by simp [edgeD]
 | d + 1, i => by
  obtain ⟨h1, h2⟩ := edgeD_up l fs d (i + 1)
  unfold edgeD
  split
  ·refine ⟨fun p hp => ?_, List.Pairwise.cons (fun p hp => ?_) h2⟩
   ·rcases List.mem_cons.mp hp with rfl | hp
    ·exact Int.le_refl _
    ·have := h1 p hp; omega
   ·have := h1 p hp; show (i : Int) < p.1; omega
  ·exact ⟨fun p hp => by have := h1 p hp; omega, h2⟩
theorem edges_up (l : List S28) (K : Int) (T : ByteArray) : (edgesOf l K T).Pairwise (fun p q => p.1 < q.1) := by
 unfold edgesOf
 split
 ·exact List.Pairwise.nil
 ·exact (edgeD_up l _ _ _).2
theorem nt_l1 (K N : Int) (T : ByteArray) (es : List (Int × ByteArray)) (hl : es.length ≤ 1000) (hK : K = 1 → es = []) (hup : es.Pairwise (fun p q => p.1 < q.1)) : ∀ (d i : Nat), i + d = es.length → Ev (fun k => truantlaw18_NodeTexts.l1 k (es.map (e40 K N T)) (i : Int) K N T) true := by
 intro d
 induction d with
 | zero =>
  intro i h0
  exact Ev.step (fun k => rfl) (Ev.neg (by rw [List.length_map]; omega) (Ev.now _))
 | succ d ih =>
  intro i h0
  have hi : i < es.length := by omega
  have rr : ∀ j : Nat, (hj : j < es.length) → rd_T40 (es.map (e40 K N T)) (j : Int) = e40 K N T es[j] := fun j hj => by unfold rd_T40; rw [Int.toNat_natCast]; simp [hj]
  have hK1 : K ≠ 1 := fun e => by rw [hK e] at hi; exact absurd hi (by simp)
  refine Ev.step (fun k => rfl) (Ev.pos (by rw [List.length_map]; omega) (Ev.pos (by omega) ?_))
  rw [rr i hi, wrap_succ (by omega) (by omega)]
  refine Ev.neg (by simp [e40]) (Ev.pos rfl (Ev.pos rfl (Ev.neg hK1 ?_)))
  by_cases h : i = 0
  ·exact Ev.neg (by omega) (ih (i + 1) (by omega))
  ·obtain ⟨j, rfl⟩ : ∃ j : Nat, i = j + 1 := ⟨i - 1, by omega⟩
   have e1 : wrap64 (((j + 1 : Nat) : Int) - 1) = (j : Int) := by unfold wrap64; omega
   rw [e1, rr j (by omega)]
   refine Ev.pos (by omega) (Ev.pos (by omega) (Ev.pos (by rw [List.length_map]; omega) (Ev.neg ?_ (ih (j + 1 + 1) (by omega)))))
   have := List.pairwise_iff_getElem.mp hup j (j + 1) (by omega) hi (by omega)
   show ¬ (es[j + 1].1 ≤ es[j].1)
   omega
theorem nt_l0 (l : List S28) (hlen : l.length ≤ 16) (hw : ∀ x ∈ l, WF28 x) (a b : Nd) (hN : R64 a.f1) (hN' : R64 b.f1) (ha : OkN a.f0 a.f1 a.f2) (hb : OkN b.f0 b.f1 b.f2) :
  ∀ (d i : Nat), i + d = l.length → (∀ j : Nat, j < i → (l.getD j z28).f1.length ≤ 12) → Ev (fun k => truantlaw18_NodeTexts.l0 k l (i : Int) a.f0 a.f1 a.f2 b.f0 b.f1 b.f2) true := by
 intro d
 induction d with
 | zero =>
  intro i h0 hj
  have hl : OkL l := ⟨by omega, fun x hx => ⟨by have := hj x (by omega); omega, fun j hjl => by
   have h1 := (hw _ (show l.getD x z28 ∈ l by rw [getD_at _ _ hx]; exact List.getElem_mem hx)).2.2
   have h2 := (h1 _ (show (l.getD x z28).f1.getD j z64 ∈ (l.getD x z28).f1 by rw [getD_at _ _ hjl]; exact List.getElem_mem hjl)).2
   omega⟩⟩
  have he : ∀ K T, (edgesOf l K T).length ≤ 1000 := fun K T => by
   unfold edgesOf
   split
   ·simp
   ·rename_i hn
    have hlt := findR_lt (nameIs T) l
    have h1 := edgeD_len l (l.getD (findR (nameIs T) l).toNat z28).f1 (l.getD (findR (nameIs T) l).toNat z28).f1.length 0
    have h2 := (hl.2 (findR (nameIs T) l).toNat (by omega)).1
    omega
  obtain ⟨ha1, ha4, haz, haT⟩ := ha
  obtain ⟨hb1, hb4, hbz, hbT⟩ := hb
  have hta := text_ev a.f0 a.f1 a.f2 hN (by omega)
  have htb := text_ev b.f0 b.f1 b.f2 hN' (by omega)
  refine Ev.step (fun k => rfl) (Ev.neg (by omega) (Ev.bind hta (Ev.bind htb (Ev.neg ?_ (Ev.bind hta (Ev.neg ?_ (Ev.bind (first_ev l hl a.f0 a.f1 a.f2) ?_)))))))
  ·rw [mk_tl (textL a.f0 a.f1 a.f2), mk_tl (textL b.f0 b.f1 b.f2)]
   by_cases e : textL a.f0 a.f1 a.f2 = textL b.f0 b.f1 b.f2
   ·obtain ⟨e1, e2, e3⟩ := textL_inj _ _ _ _ _ _ ha1 ha4 hb1 hb4 haz hbz e
    rw [e, e1, e2, e3]; simp
   ·have e' : (textL a.f0 a.f1 a.f2 == textL b.f0 b.f1 b.f2) = false := beq_eq_false_iff_ne.mpr e
    rw [e']
    intro h
    have h' : (a.f0 == b.f0 && (a.f1 == b.f1 && (a.f2.toList == b.f2.toList))) = true := by simpa using h
    simp only [Bool.and_eq_true, beq_iff_eq] at h'
    obtain ⟨e1, e2, e3⟩ := h'
    exact e (by rw [e1, e2, bytes_eq e3])
  ·rw [mk_tl (textL a.f0 a.f1 a.f2)]
   exact textL_ne _ _ _ ha1 ha4
  ·exact nt_l1 a.f0 a.f1 a.f2 _ (he _ _) (fun hK => by unfold edgesOf; rw [if_pos (by omega)]) (edges_up _ _ _) (edgesOf l a.f0 a.f2).length 0 (by omega)
 | succ d ih =>
  intro i h0 hj
  have hr : (rd_T28 l (i : Int)) = l.getD i z28 := by unfold rd_T28; rw [Int.toNat_natCast]
  refine Ev.step (fun k => rfl) (Ev.pos (by omega) (Ev.pos (by omega) ?_))
  rw [hr, wrap_succ (by omega) (by omega)]
  by_cases h : ((l.getD i z28).f1.length : Int) > 12
  ·exact Ev.pos h (Ev.now _)
  ·refine Ev.neg h (ih (i + 1) (by omega) (fun j hj2 => ?_))
   rcases Nat.lt_or_ge j i with h3 | h3
   ·exact hj j h3
   ·rw [show j = i by omega]; omega
theorem NodeTexts_pure : NodeTexts.Pure := by
 intro l a0 a1 a2 b0 b1 b2 hl ha hb
 have r64 : ∀ {x : Int}, (Lit.int .i64 x).wf = true → R64 x := fun h => by simpa [Lit.wf, IntKind.min, IntKind.max, IntKind.signed, IntKind.bits, R64] using h
 have hev : Ev (fun k => truantlaw18_NodeTexts.f k l a0 a1 a2 b0 b1 b2) true := by
  refine Ev.one rfl (Ev.pos rfl ?_)
  by_cases h1 : (l.length : Int) > 16
  ·exact Ev.pos h1 (Ev.now _)
  ·refine Ev.neg h1 ?_
   obtain ⟨p, hp, hp'⟩ := plain_ev a0 a1 a2
   obtain ⟨q, hq, hq'⟩ := plain_ev b0 b1 b2
   refine Ev.bind hp ?_
   by_cases h2 : p = true
   ·refine Ev.pos h2 (Ev.bind hq ?_)
    by_cases h3 : q = true
    ·exact Ev.pos h3 (nt_l0 l (by omega) hl.2 ⟨a0, a1, a2⟩ ⟨b0, b1, b2⟩ (r64 ha.2.1) (r64 hb.2.1) (hp' h2) (hq' h3) l.length 0 (by omega) (fun j hj => absurd hj (by omega)))
    ·exact Ev.neg h3 (Ev.now _)
   ·exact Ev.neg h2 (Ev.now _)
 obtain ⟨K, hK⟩ := hev
 exact ⟨K, hK K (Nat.le_refl _)⟩
end Go.Proofs.YtgidnkmlnccaiaaDoor.Q
