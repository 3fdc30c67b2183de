/- What the row of LexPlaces rests on, part 2: contracts of the functions that it reaches, and the plain law. -/
import Derived.Test.YtcmppjonpmgncaaGreatDoorJLexPlaces1
/- The words of a text, told of lists of bytes: what stands between, the token at the head, all tokens. -/

namespace Go.Proofs.YtcmppjonpmgncaaGreatDoor.Q
open Go.RowKit Go.Proofs.YtcmppjonpmgncaaGreatDoorW.PrintWords Go.Proofs.YtcmppjonpmgncaaGreatDoorW.PrintLast Go.Proofs.YtcmppjonpmgncaaGreatDoorW.PrintMore
set_option linter.unusedVariables false
set_option linter.unusedSimpArgs false
abbrev Tk := S32
def bA (l : List UInt8) : ByteArray := ⟨l.toArray⟩
theorem bA_list (l : List UInt8) : (bA l).data.toList = l := rfl
theorem bA_tl (l : List UInt8) : (bA l).toList = l := by rw [ByteArray.toList_eq]; rfl
theorem bA_size (l : List UInt8) : (bA l).size = l.length := by rw [← tl_len, bA_tl]
theorem bA_of (s : ByteArray) : bA s.data.toList = s := by obtain ⟨⟨l⟩⟩ := s; rfl
theorem tw_stop {α : Type} (p : α → Bool) (a : List α) (c : α) (b : List α) (h : p c = false) : (a ++ c :: b).takeWhile p = a.takeWhile p := by
 induction a with
 | nil => simp [List.takeWhile_cons, h]
 | cons x r ih =>
  simp only [List.cons_append, List.takeWhile_cons]
  cases p x <;> simp [ih]
def twP (p : Int → Bool) (l : List UInt8) : List UInt8 := l.takeWhile (fun b => p (b.toNat : Int))
theorem runP_tw (p : Int → Bool) (l : List UInt8) : runP p l = (twP p l).length := rfl
theorem twP_stop (p : Int → Bool) (a : List UInt8) (c : UInt8) (b : List UInt8) (h : p (c.toNat : Int) = false) : twP p (a ++ c :: b) = twP p a := by unfold twP; rw [tw_stop _ a c b h]
theorem twP_cons (p : Int → Bool) (b : UInt8) (r : List UInt8) : twP p (b :: r) = if p (b.toNat : Int) = true then b :: twP p r else [] := by
 unfold twP
 rw [List.takeWhile_cons]
theorem twP_pre (p : Int → Bool) (l : List UInt8) : twP p l <+: l := List.takeWhile_prefix _
theorem twP_twP (p : Int → Bool) (l : List UInt8) : twP p (twP p l) = twP p l := by
 induction l with
 | nil => rfl
 | cons b r ih =>
  rw [twP_cons]
  split
  ·rename_i h
   rw [twP_cons, if_pos h, ih]
  ·rfl
theorem runP_stop (p : Int → Bool) (a : List UInt8) (c : UInt8) (b : List UInt8) (h : p (c.toNat : Int) = false) : runP p (a ++ c :: b) = runP p a := by rw [runP_tw, runP_tw, twP_stop p a c b h]
theorem runP_cons (p : Int → Bool) (b : UInt8) (r : List UInt8) : runP p (b :: r) = if p (b.toNat : Int) = true then runP p r + 1 else 0 := by
 rw [runP_tw, runP_tw, twP_cons]
 split <;> rfl
theorem skip_nil : skipN [] = 0 := by rw [skipN_eq]; rfl
theorem skip_blank {b : UInt8} {r : List UInt8} (h : blB (b.toNat : Int) = true) : skipN (b :: r) = 1 + skipN r := by
 rw [skipN_eq (b :: r), skipN_eq r, runP_cons, if_pos h]
 have e : (b :: r).drop (runP blB r + 1) = r.drop (runP blB r) := rfl
 rw [e]
 split
 ·rw [show runP blB r + 1 + runP nlB (r.drop (runP blB r)) = (runP blB r + runP nlB (r.drop (runP blB r))) + 1 by omega, List.drop_succ_cons]
  omega
 ·omega
theorem com_cases {l : List UInt8} (h : isCom l = true) : ∃ r, l = 47 :: 47 :: r := by
 unfold isCom at h
 split at h
 ·exact ⟨_, rfl⟩
 ·cases h
theorem skip_com {l : List UInt8} (h : isCom l = true) : skipN l = runP nlB l + skipN (l.drop (runP nlB l)) := by
 have h0 : runP blB l = 0 := by
  obtain ⟨r, rfl⟩ := com_cases h
  rw [runP_cons, if_neg (by decide)]
 rw [skipN_eq l, h0, List.drop_zero, if_pos h, Nat.zero_add]
theorem skip_none {b : UInt8} {r : List UInt8} (h : blB (b.toNat : Int) = false) (hc : isCom (b :: r) = false) : skipN (b :: r) = 0 := by
 have h0 : runP blB (b :: r) = 0 := by rw [runP_cons, if_neg (by rw [h]; decide)]
 rw [skipN_eq (b :: r), h0, List.drop_zero, if_neg (by rw [hc]; decide)]
theorem skip_ind {P : List UInt8 → Prop} (h0 : P []) (hb : ∀ b r, blB (b.toNat : Int) = true → P r → P (b :: r)) (hc : ∀ l, isCom l = true → P (l.drop (runP nlB l)) → P l)
  (hn : ∀ b r, blB (b.toNat : Int) = false → isCom (b :: r) = false → P (b :: r)) : ∀ l, P l := by
 have : ∀ (n : Nat) (l : List UInt8), l.length ≤ n → P l := by
  intro n
  induction n with
  | zero => intro l hl; obtain rfl : l = [] := List.eq_nil_of_length_eq_zero (by omega); exact h0
  | succ n ih =>
   intro l hl
   cases l with
   | nil => exact h0
   | cons b r =>
    cases hB : blB (b.toNat : Int) with
    | true => exact hb b r hB (ih r (by simp at hl; omega))
    | false =>
     cases hC : isCom (b :: r) with
     | true => exact hc _ hC (ih _ (by have := isCom_run hC; rw [List.length_drop]; omega))
     | false => exact hn b r hB hC
 exact fun l => this l.length l (Nat.le_refl _)
theorem com_join {a b : List UInt8} {c : UInt8} (hc : c ≠ 47) (ha : a ≠ []) : isCom (a ++ c :: b) = isCom a := by
 match a, ha with
 | [x], _ =>
  rw [List.cons_append, List.nil_append]
  unfold isCom
  split
  ·rename_i h; injection h with h1 h2; injection h2 with h3 h4; exact absurd h3 hc
  ·split
   ·rename_i h; injection h with h1 h2; cases h2
   ·rfl
 | x :: y :: r, _ =>
  simp only [List.cons_append]
  by_cases hx : x = 47
  ·by_cases hy : y = 47
   ·subst hx hy; rfl
   ·subst hx; unfold isCom; split <;> split <;> simp_all
  ·unfold isCom; split <;> split <;> simp_all
/-- What stands between, in a text behind which a line feed and another text stand. -/
theorem skip_join (b : List UInt8) : ∀ a : List UInt8, (skipN a < a.length → skipN (a ++ 10 :: b) = skipN a) ∧ (skipN a = a.length → skipN (a ++ 10 :: b) = a.length + 1 + skipN b) := by
 refine skip_ind ?_ ?_ ?_ ?_
 ·refine ⟨fun h => absurd h (by simp), fun _ => ?_⟩
  rw [List.nil_append, skip_blank (by decide)]
  simp
 ·intro c r h ih
  rw [skip_blank h, List.cons_append, skip_blank h, List.length_cons]
  exact ⟨fun hl => by rw [ih.1 (by omega)], fun hl => by rw [ih.2 (by omega)]; omega⟩
 ·intro l h ih
  have h2 := isCom_run h
  have hle := runP_le nlB l
  have hne : l ≠ [] := by rintro rfl; cases h
  have hj : isCom (l ++ 10 :: b) = true := by rw [com_join (by decide) hne]; exact h
  rw [skip_com h, skip_com hj, runP_stop nlB l 10 b (by decide), List.drop_append_of_le_length hle]
  rw [List.length_drop] at ih
  exact ⟨fun hl => by rw [ih.1 (by omega)], fun hl => by rw [ih.2 (by omega)]; omega⟩
 ·intro c r h hc
  rw [skip_none h hc]
  refine ⟨fun _ => ?_, fun hl => absurd hl (by simp)⟩
  have hj : isCom (c :: (r ++ 10 :: b)) = false := by rw [← List.cons_append, com_join (by decide) (by simp)]; exact hc
  rw [List.cons_append, skip_none h hj]
/-! the token at a text's head -/
def headB (p : Int → Bool) (l : List UInt8) : Bool := match l with
 | [] => false
 | b :: _ => p (b.toNat : Int)
def isPre (l : List UInt8) (x : ByteArray) : Bool := x.data.toList.isPrefixOf l
def signK (l : List UInt8) : Int × List UInt8 × Int := if findR (isPre l) signL < 0 then (0, [], 1) else (4, (signL.getD (findR (isPre l) signL).toNat ByteArray.empty).data.toList, 0)
def tokF (l : List UInt8) : Int × List UInt8 × Int :=
 if headB letB l = true then (if keyB (bA (twP lodB l)) = true then 2 else 1, twP lodB l, if 12 < (twP lodB l).length then 4 else 0)
 else if headB digB l = true then (3, twP digB l, if headB letB (l.drop (twP digB l).length) = true then 1 else (parseN (bA (twP digB l))).2)
 else signK l
theorem prefB_iff (l : List UInt8) (x : ByteArray) : prefB (bA l) x = true ↔ x.data.toList <+: l := by
 unfold prefB
 rw [bA_size, ByteArray.toList_eq, ByteArray.toList_eq, ext_take, bA_list, List.prefix_iff_eq_take]
 have hx : x.data.toList.length = x.size := data_length x
 rw [hx]
 constructor
 ·intro h
  simp only [Bool.and_eq_true, decide_eq_true_eq, beq_iff_eq] at h
  exact h.2.symm
 ·intro h
  simp only [Bool.and_eq_true, decide_eq_true_eq, beq_iff_eq]
  refine ⟨?_, h.symm⟩
  have := congrArg List.length h
  rw [hx, List.length_take] at this
  omega
theorem isPre_iff (l : List UInt8) (x : ByteArray) : isPre l x = true ↔ x.data.toList <+: l := List.isPrefixOf_iff_prefix
theorem prefB_isPre (l : List UInt8) : prefB (bA l) = isPre l := by
 funext x
 rw [Bool.eq_iff_iff, prefB_iff, isPre_iff]
theorem sign_no {c : UInt8} (hc : c = 10 ∨ c = 32) : ∀ x ∈ signL, c ∉ x.data.toList := by
 rcases hc with rfl | rfl <;> (unfold signL; decide)
theorem pre_stop {c : UInt8} {b : List UInt8} : ∀ {a x : List UInt8}, c ∉ x → (x <+: a ++ c :: b ↔ x <+: a)
 | a, [], _ => by simp
 | [], z :: x, h => by
  rw [List.nil_append, List.cons_prefix_cons]
  simp only [List.prefix_nil, reduceCtorEq, iff_false, not_and]
  rintro rfl
  exact absurd (List.mem_cons_self ..) h
 | y :: a, z :: x, h => by
  rw [List.cons_append, List.cons_prefix_cons, List.cons_prefix_cons, pre_stop (fun q => h (List.mem_cons_of_mem _ q))]
theorem findR_congr {α : Type} {p q : α → Bool} : ∀ {l : List α}, (∀ x ∈ l, p x = q x) → findR p l = findR q l := by
 intro l h
 have : l.findIdx p = l.findIdx q := by
  induction l with
  | nil => rfl
  | cons a r ih =>
   rw [List.findIdx_cons, List.findIdx_cons, h a (List.mem_cons_self ..), ih (fun x hx => h x (List.mem_cons_of_mem _ hx))]
 unfold findR
 rw [this]
theorem sign_join {a : List UInt8} {c : UInt8} (b : List UInt8) (hc : c = 10 ∨ c = 32) : signK (a ++ c :: b) = signK a := by
 have : findR (isPre (a ++ c :: b)) signL = findR (isPre a) signL := by
  refine findR_congr (fun x hx => ?_)
  have h1 := isPre_iff (a ++ c :: b) x
  have h2 := isPre_iff a x
  have h3 := pre_stop (b := b) (a := a) (sign_no hc x hx)
  rw [Bool.eq_iff_iff, h1, h2, h3]
 unfold signK
 rw [this]
theorem head_join (p : Int → Bool) {a : List UInt8} (ha : a ≠ []) (c : UInt8) (b : List UInt8) : headB p (a ++ c :: b) = headB p a := by
 cases a with
 | nil => exact absurd rfl ha
 | cons x r => rfl
theorem tok_join {a : List UInt8} (ha : a ≠ []) {c : UInt8} (b : List UInt8) (hc : c = 10 ∨ c = 32) : tokF (a ++ c :: b) = tokF a := by
 have h1 : lodB (c.toNat : Int) = false := by rcases hc with rfl | rfl <;> decide
 have h2 : digB (c.toNat : Int) = false := by rcases hc with rfl | rfl <;> decide
 have h3 : letB (c.toNat : Int) = false := by rcases hc with rfl | rfl <;> decide
 unfold tokF
 rw [head_join letB ha, head_join digB ha, twP_stop lodB a c b h1, twP_stop digB a c b h2, sign_join b hc]
 have hle : (twP digB a).length ≤ a.length := (twP_pre digB a).length_le
 have h4 : headB letB ((a ++ c :: b).drop (twP digB a).length) = headB letB (a.drop (twP digB a).length) := by
  rw [List.drop_append_of_le_length hle]
  by_cases h : a.drop (twP digB a).length = []
  ·rw [h]; exact h3
  ·exact head_join letB h c b
 rw [h4]
theorem signK_pre {l : List UInt8} {kd : Int} {t : List UInt8} (h : signK l = (kd, t, 0)) : ∃ x ∈ signL, kd = 4 ∧ t = x.data.toList ∧ t <+: l := by
 unfold signK at h
 split at h
 ·cases h
 ·rename_i hn
  obtain ⟨j, hj, hjl⟩ := find_in hn
  rw [hj, Int.toNat_natCast, getD_at _ _ hjl] at h
  injection h with h1 h2
  injection h2 with h2 h3
  refine ⟨signL[j], List.getElem_mem hjl, h1.symm, h2.symm, ?_⟩
  rw [← h2, ← isPre_iff]
  unfold findR at hj
  split at hj
  ·rename_i hlt
   have := List.findIdx_getElem (w := hlt)
   have e : signL.findIdx (isPre l) = j := by omega
   simp only [e] at this
   exact this
  ·omega
theorem sign_ne : ∀ x ∈ signL, x.data.toList ≠ [] := by unfold signL; decide
theorem head_tw {p q : Int → Bool} {l : List UInt8} (h : headB p l = true) (hpq : ∀ a, p a = true → q a = true) : twP q l ≠ [] ∧ headB p (twP q l) = true := by
 cases l with
 | nil => cases h
 | cons b r =>
  rw [twP_cons, if_pos (hpq _ h)]
  exact ⟨by simp, h⟩
theorem let_lod (a : Int) (h : letB a = true) : lodB a = true := by unfold lodB; rw [h]; rfl
theorem let_dig (a : Int) (h : letB a = true) : digB a = false := by
 unfold letB at h; unfold digB
 simp only [decide_eq_true_eq] at h
 simp only [decide_eq_false_iff_not]
 omega
theorem tok_pre {l : List UInt8} {kd : Int} {t : List UInt8} (h : tokF l = (kd, t, 0)) : t ≠ [] ∧ t <+: l := by
 unfold tokF at h
 split at h
 ·rename_i hl
  injection h with h1 h2
  injection h2 with h2 h3
  rw [← h2]
  exact ⟨(head_tw hl let_lod).1, twP_pre _ _⟩
 ·split at h
  ·rename_i hl
   injection h with h1 h2
   injection h2 with h2 h3
   rw [← h2]
   exact ⟨(head_tw hl (fun _ h => h)).1, twP_pre _ _⟩
  ·obtain ⟨x, hx, _, rfl, hp⟩ := signK_pre h
   exact ⟨sign_ne x hx, hp⟩
/-! all tokens -/
inductive Sc : List UInt8 → Nat → List Tk → Int → Int → Prop
 | done {l : List UInt8} {i : Nat} (h : skipN l = l.length) : Sc l i [] 0 0
 | bad {l : List UInt8} {i : Nat} {kd e : Int} {t : List UInt8} (h : skipN l < l.length) (ht : tokF (l.drop (skipN l)) = (kd, t, e)) (he : e ≠ 0) : Sc l i [] ((i + skipN l : Nat) : Int) e
 | go {l : List UInt8} {i : Nat} {kd p e : Int} {t : List UInt8} {r : List Tk} (h : skipN l < l.length) (ht : tokF (l.drop (skipN l)) = (kd, t, 0)) (k : Sc (l.drop (skipN l + t.length)) (i + skipN l + t.length) r p e) :
   Sc l i (⟨kd, bA t, ((i + skipN l : Nat) : Int)⟩ :: r) p e
theorem Sc.all : ∀ (n : Nat) (l : List UInt8) (i : Nat), l.length ≤ n → ∃ r p e, Sc l i r p e := by
 intro n
 induction n with
 | zero => intro l i hl; exact ⟨[], 0, 0, .done (by have := skipN_le l; omega)⟩
 | succ n ih =>
  intro l i hl
  have hs := skipN_le l
  by_cases h : skipN l = l.length
  ·exact ⟨[], 0, 0, .done h⟩
  ·have h : skipN l < l.length := by omega
   obtain ⟨⟨kd, t, e⟩, ht⟩ : ∃ x, tokF (l.drop (skipN l)) = x := ⟨_, rfl⟩
   by_cases he : e = 0
   ·subst he
    have hp := tok_pre ht
    have hl2 : 0 < t.length := List.length_pos_iff.mpr hp.1
    obtain ⟨r, p, e, k⟩ := ih (l.drop (skipN l + t.length)) (i + skipN l + t.length) (by rw [List.length_drop]; omega)
    exact ⟨_, p, e, .go h ht k⟩
   ·exact ⟨[], _, e, .bad h ht he⟩
theorem Sc.ex (l : List UInt8) (i : Nat) : ∃ r p e, Sc l i r p e := Sc.all l.length l i (Nat.le_refl _)
end Go.Proofs.YtcmppjonpmgncaaGreatDoor.Q

/- Two texts with a line feed between; the texts of the tokens with blanks between. -/

namespace Go.Proofs.YtcmppjonpmgncaaGreatDoor.Q
open Go.RowKit Go.Proofs.YtcmppjonpmgncaaGreatDoorW.PrintWords Go.Proofs.YtcmppjonpmgncaaGreatDoorW.PrintLast Go.Proofs.YtcmppjonpmgncaaGreatDoorW.PrintMore
set_option linter.unusedVariables false
set_option linter.unusedSimpArgs false
theorem Sc.zero {l : List UInt8} {i : Nat} {r : List Tk} {p e : Int} (h : Sc l i r p e) : e = 0 → p = 0 := by
 induction h with
 | done _ => exact fun _ => rfl
 | bad _ _ he => exact fun h => absurd h he
 | go _ _ _ ih => exact ih
theorem Sc.cut {l : List UInt8} {i : Nat} {r : List Tk} {p e : Int} {n : Nat} (hn : n ≤ l.length) (hs : skipN l = n + skipN (l.drop n)) (h : Sc (l.drop n) (i + n) r p e) : Sc l i r p e := by
 obtain ⟨l', hl'⟩ : ∃ l', l' = l.drop n := ⟨_, rfl⟩
 obtain ⟨i', hi'⟩ : ∃ i', i' = i + n := ⟨_, rfl⟩
 rw [← hl', ← hi'] at h
 have hlen : l'.length = l.length - n := by rw [hl', List.length_drop]
 rw [← hl'] at hs
 cases h with
 | done h => exact .done (by omega)
 | @bad _ _ kd e t h ht he =>
  have e : i' + skipN l' = i + skipN l := by omega
  rw [e]
  refine .bad (t := t) (kd := kd) (by omega) ?_ he
  rw [hs, ← List.drop_drop, ← hl']
  exact ht
 | @go _ _ _ _ _ t _ h ht k =>
  have e : i' + skipN l' = i + skipN l := by omega
  rw [e] at k ⊢
  refine .go (t := t) (by omega) ?_ ?_
  ·rw [hs, ← List.drop_drop, ← hl']
   exact ht
  ·rw [hs, Nat.add_assoc, ← List.drop_drop, ← hl', ← hs]
   exact k
theorem drop_join {a b : List UInt8} {n : Nat} (c : UInt8) (h : n ≤ a.length) : (a ++ c :: b).drop n = a.drop n ++ c :: b := List.drop_append_of_le_length h
theorem drop_ne {l : List UInt8} {n : Nat} (h : n < l.length) : l.drop n ≠ [] := fun e => by have := congrArg List.length e; rw [List.length_drop] at this; simp at this; omega
theorem Sc.join {a : List UInt8} {i : Nat} {x : List Tk} {p e : Int} (h : Sc a i x p e) : e = 0 → ∀ {b : List UInt8} {y : List Tk} {p' e' : Int}, Sc b (i + a.length + 1) y p' e' → Sc (a ++ 10 :: b) i (x ++ y) p' e' := by
 induction h with
 | @done l i h =>
  intro _ b y p' e' k
  have hs := (skip_join b l).2 h
  have e : (l ++ 10 :: b).drop (l.length + 1) = b := by
   rw [← List.drop_drop, List.drop_left]; rfl
  refine Sc.cut (n := l.length + 1) (by simp) (by rw [e]; exact hs) ?_
  rw [e]
  exact k
 | bad _ _ he => exact fun h => absurd h he
 | @go l i kd p e t r h ht _ ih =>
  intro he b y p' e' k
  have hs := (skip_join b l).1 h
  have hp := tok_pre ht
  have hlen := hp.2.length_le
  rw [List.length_drop] at hlen
  have e1 : i + skipN l = i + skipN (l ++ 10 :: b) := by rw [hs]
  rw [List.cons_append, e1]
  refine .go (t := t) (by rw [hs]; simp; omega) ?_ ?_
  ·rw [hs, drop_join 10 (by omega), tok_join (drop_ne h) b (.inl rfl)]
   exact ht
  ·rw [hs, drop_join 10 (by omega)]
   refine ih he ?_
   rw [List.length_drop, show i + skipN l + t.length + (l.length - (skipN l + t.length)) = i + l.length by omega]
   exact k
/-! a token's text, alone -/
theorem sign_self : ∀ x ∈ signL, tokF x.data.toList = (4, x.data.toList, 0) := by unfold signL; decide
theorem sign_first : ∀ x ∈ signL, headB blB x.data.toList = false ∧ isCom x.data.toList = false := by unfold signL; decide
theorem let_bl (a : Int) (h : letB a = true) : blB a = false := by
 unfold letB at h; unfold blB
 simp only [decide_eq_true_eq] at h
 simp only [decide_eq_false_iff_not]
 omega
theorem dig_bl (a : Int) (h : digB a = true) : blB a = false := by
 unfold digB at h; unfold blB
 simp only [decide_eq_true_eq] at h
 simp only [decide_eq_false_iff_not]
 omega
theorem com_head {b : UInt8} {r : List UInt8} (h : b ≠ 47) : isCom (b :: r) = false := by
 unfold isCom
 split
 ·rename_i e; injection e with e1 e2; exact absurd e1 h
 ·rfl
structure Self (kd : Int) (t : List UInt8) : Prop where
 ne : t ≠ []
 tok : tokF t = (kd, t, 0)
 bl : headB blB t = false
 com : isCom t = false
theorem tok_self {l : List UInt8} {kd : Int} {t : List UInt8} (h : tokF l = (kd, t, 0)) : Self kd t := by
 have hne := (tok_pre h).1
 unfold tokF at h
 split at h
 ·rename_i hl
  injection h with h1 h2
  injection h2 with h2 h3
  have hh := (head_tw hl let_lod).2
  rw [h2] at hh
  have ht : twP lodB t = t := by rw [← h2, twP_twP]
  refine ⟨hne, ?_, ?_, ?_⟩
  ·unfold tokF
   rw [if_pos hh, ht, ← h1, h2]
   rw [h2] at h3
   rw [h3]
  ·cases t with
   | nil => exact absurd rfl hne
   | cons b r => exact let_bl _ hh
  ·cases t with
   | nil => exact absurd rfl hne
   | cons b r => exact com_head (fun e => by subst e; exact absurd (show letB ((47 : UInt8).toNat : Int) = true from hh) (by decide))
 ·rename_i hl
  split at h
  ·rename_i hd
   injection h with h1 h2
   injection h2 with h2 h3
   have hh := (head_tw hd (fun _ h => h)).2
   rw [h2] at hh
   have ht : twP digB t = t := by rw [← h2, twP_twP]
   have hnl : ¬ headB letB t = true := fun e => by
    cases t with
    | nil => exact absurd rfl hne
    | cons b r => exact absurd hh (by rw [show headB digB (b :: r) = digB b.toNat from rfl, let_dig _ e]; decide)
   refine ⟨hne, ?_, ?_, ?_⟩
   ·unfold tokF
    rw [if_neg hnl, if_pos hh, ht, List.drop_length, ← h1]
    rw [h2] at h3
    split at h3
    ·exact absurd h3 (by decide)
    ·rw [h3]; rfl
   ·cases t with
    | nil => exact absurd rfl hne
    | cons b r => exact dig_bl _ hh
   ·cases t with
    | nil => exact absurd rfl hne
    | cons b r => exact com_head (fun e => by subst e; exact absurd (show digB ((47 : UInt8).toNat : Int) = true from hh) (by decide))
  ·obtain ⟨x, hx, rfl, rfl, _⟩ := signK_pre h
   exact ⟨hne, sign_self x hx, (sign_first x hx).1, (sign_first x hx).2⟩
theorem Self.skip {kd : Int} {t : List UInt8} (h : Self kd t) : skipN t = 0 := by
 obtain ⟨h1, _, h3, h4⟩ := h
 cases t with
 | nil => exact absurd rfl h1
 | cons b r => exact skip_none h3 h4
theorem Self.skip' {kd : Int} {t : List UInt8} (h : Self kd t) (R : List UInt8) : skipN (t ++ 32 :: R) = 0 := by
 obtain ⟨h1, _, h3, h4⟩ := h
 have hj : isCom (t ++ 32 :: R) = false := by rw [com_join (by decide) h1]; exact h4
 cases t with
 | nil => exact absurd rfl h1
 | cons b r => exact skip_none h3 hj
def ktT (x : Tk) : Int × ByteArray := (x.f0, x.f1)
def joinT (r : List Tk) : List UInt8 := Lib.join (r.map (fun x => x.f1.data.toList)) [32]
theorem Sc.joined {l : List UInt8} {i : Nat} {r : List Tk} {p e : Int} (h : Sc l i r p e) : e = 0 → ∀ i' : Nat, ∃ r', Sc (joinT r) i' r' 0 0 ∧ r'.map ktT = r.map ktT := by
 induction h with
 | done h => exact fun _ i' => ⟨[], .done (by rw [show joinT [] = [] from rfl]; exact skip_nil), rfl⟩
 | bad _ _ he => exact fun h => absurd h he
 | @go l i kd p e t r h ht k ih =>
  intro he i'
  have hS := tok_self ht
  cases r with
  | nil =>
   have ej : joinT [⟨kd, bA t, ((i + skipN l : Nat) : Int)⟩] = t := by show Lib.join [t] [32] = t; simp [Lib.join]
   rw [ej]
   have hs := hS.skip
   have hpos : 0 < t.length := List.length_pos_iff.mpr hS.ne
   refine ⟨[⟨kd, bA t, ((i' + skipN t : Nat) : Int)⟩], .go (t := t) (by omega) (by rw [hs, List.drop_zero]; exact hS.tok) ?_, rfl⟩
   rw [hs, Nat.zero_add, List.drop_length]
   exact .done skip_nil
  | cons y r =>
   have ej : joinT (⟨kd, bA t, ((i + skipN l : Nat) : Int)⟩ :: y :: r) = t ++ 32 :: joinT (y :: r) := by
    show Lib.join (t :: y.f1.data.toList :: r.map _) [32] = _
    simp [Lib.join, joinT]
   rw [ej]
   obtain ⟨r', k1, k2⟩ := ih he (i' + t.length + 1)
   have hs := hS.skip' (joinT (y :: r))
   refine ⟨⟨kd, bA t, ((i' + skipN (t ++ 32 :: joinT (y :: r)) : Nat) : Int)⟩ :: r', .go (t := t) (by rw [hs]; simp; omega) ?_ ?_, ?_⟩
   ·rw [hs, List.drop_zero, tok_join hS.ne _ (.inr rfl)]
    exact hS.tok
   ·rw [hs, Nat.zero_add, List.drop_left]
    refine Sc.cut (n := 1) (by simp) (by rw [skip_blank (by decide)]; rfl) ?_
    exact k1
   ·rw [List.map_cons, List.map_cons, k2]; rfl
end Go.Proofs.YtcmppjonpmgncaaGreatDoor.Q

/- Scan, told of lists of bytes. -/

namespace Go.Proofs.YtcmppjonpmgncaaGreatDoor.Q
open Go.RowKit Go.Proofs.YtcmppjonpmgncaaGreatDoorW.PrintWords Go.Proofs.YtcmppjonpmgncaaGreatDoorW.PrintLast Go.Proofs.YtcmppjonpmgncaaGreatDoorW.PrintMore
set_option linter.unusedVariables false
set_option linter.unusedSimpArgs false
theorem tw_take (p : Int → Bool) (l : List UInt8) : l.take (twP p l).length = twP p l := (List.prefix_iff_eq_take.mp (twP_pre p l)).symm
theorem ext_bA (s : ByteArray) (n : Nat) : s.extract 0 n = bA (s.data.toList.take n) := by rw [← ext_take, bA_of]
theorem head_bt (p : Int → Bool) (s : ByteArray) (h : 0 < s.size) : headB p s.data.toList = p (bt s 0) := by
 rw [show (0 : Int) = ((0 : Nat) : Int) from rfl, bt_nat s 0 h]
 have h1 : 0 < s.data.toList.length := by rw [data_length]; exact h
 have key : ∀ (l : List UInt8) (q : 0 < l.length), headB p l = p ((l[0]'q).toNat : Int) := fun l q => by
  cases l with
  | nil => exact absurd q (Nat.lt_irrefl _)
  | cons b r => rfl
 exact key _ h1
theorem head_drop (p : Int → Bool) (s : ByteArray) {n : Nat} (h : n < s.size) : headB p (s.data.toList.drop n) = p (bt s n) := by
 rw [bt_nat s n h, List.drop_eq_getElem_cons (by rw [data_length]; exact h)]
 rfl
theorem word_ev (s : ByteArray) (hs : s.size ≤ 4096) : Ev (fun k => lex_word.f k s) (if keyB (bA (twP lodB s.data.toList)) = true then 2 else 1, bA (twP lodB s.data.toList), 0, if 12 < (twP lodB s.data.toList).length then 4 else 0) := by
 have hle := runP_le lodB s.data.toList
 rw [data_length] at hle
 refine Ev.one (a := lex_run_lex_word_1.f s) (b := ((runP lodB s.data.toList : Nat) : Int)) (by unfold lex_run_lex_word_1.f; rw [if_pos (by omega)]) ?_
 refine Ev.pos (by omega) (Ev.pos (by omega) ?_)
 rw [Int.toNat_natCast, ext_bA, runP_tw, tw_take, bA_size]
 refine Ev.bind (isKey_ev _) ?_
 cases keyB (bA (twP lodB s.data.toList)) with
 | true =>
  refine Ev.pos rfl ?_
  by_cases h : 12 < (twP lodB s.data.toList).length
  ·exact Ev.pos (by omega) (Ev.eq (Ev.now _) (by rw [if_pos h]; rfl))
  ·exact Ev.neg (by omega) (Ev.eq (Ev.now _) (by rw [if_neg h]; rfl))
 | false =>
  refine Ev.neg (by decide) ?_
  by_cases h : 12 < (twP lodB s.data.toList).length
  ·exact Ev.pos (by omega) (Ev.eq (Ev.now _) (by rw [if_pos h]; rfl))
  ·exact Ev.neg (by omega) (Ev.eq (Ev.now _) (by rw [if_neg h]; rfl))
theorem number_is (s : ByteArray) (hs : s.size ≤ 4096) : lex_number.f s = some (3, bA (twP digB s.data.toList), 0, if headB letB (s.data.toList.drop (twP digB s.data.toList).length) = true then 1 else (parseN (bA (twP digB s.data.toList))).2) := by
 have hle := runP_le digB s.data.toList
 rw [data_length] at hle
 unfold lex_number.f
 rw [show lex_run_lex_isDigit.f s = some ((runP digB s.data.toList : Nat) : Int) by unfold lex_run_lex_isDigit.f; rw [if_pos (by omega)]]
 simp only [Option.bind_some]
 rw [if_pos (by omega), if_pos (by omega), Int.toNat_natCast, ext_bA, runP_tw, tw_take]
 rw [runP_tw] at hle
 have hp : num_Parse.f (bA (twP digB s.data.toList)) = some (parseN (bA (twP digB s.data.toList))) := by unfold num_Parse.f; rw [if_pos (by rw [bA_size]; omega)]
 rw [hp]
 by_cases h : (twP digB s.data.toList).length < s.size
 ·rw [if_pos (by omega), letB_some, head_drop letB s h]
  simp only [Option.bind_some]
  cases letB (bt s ((twP digB s.data.toList).length : Nat)) <;> rfl
 ·rw [if_neg (by omega)]
  have : s.data.toList.drop (twP digB s.data.toList).length = [] := List.drop_eq_nil_of_le (by rw [data_length]; omega)
  rw [this]
  rfl
theorem sign_is (s : ByteArray) : lex_sign.f s = some ((signK s.data.toList).1, bA (signK s.data.toList).2.1, 0, (signK s.data.toList).2.2) := by
 have hp : prefB s = isPre s.data.toList := by rw [← prefB_isPre, bA_of]
 unfold lex_sign.f signK
 rw [hp]
 split
 ·rfl
 ·simp only [bA_of]
theorem next_ev (s : ByteArray) (hs : s.size ≤ 4096) (h0 : 0 < s.size) : Ev (fun k => lex_next.f k s) ((tokF s.data.toList).1, bA (tokF s.data.toList).2.1, 0, (tokF s.data.toList).2.2) := by
 refine Ev.pos (by omega) (Ev.one (letB_some _) ?_)
 unfold tokF
 rw [head_bt letB s h0, head_bt digB s h0]
 cases letB (bt s 0) with
 | true => exact Ev.pos rfl (Ev.bind (word_ev s hs) (Ev.now _))
 | false =>
  refine Ev.neg (by decide) (Ev.one (show lex_isDigit.f (bt s 0) = some (digB (bt s 0)) from digB_some _) ?_)
  cases digB (bt s 0) with
  | true => exact Ev.pos rfl (Ev.one (number_is s hs) (Ev.now _))
  | false => exact Ev.neg (by decide) (Ev.one (sign_is s) (Ev.now _))
def outS {α : Type} (r : List α) (p e : Int) : List α × Int × Int := if e = 0 then (r, 0, 0) else ([], p, e)
theorem drop_drop' (l : List UInt8) (i n : Nat) : (l.drop i).drop n = l.drop (i + n) := List.drop_drop
theorem scan_l (s : ByteArray) (hs : s.size ≤ 4096) {l : List UInt8} {i : Nat} {r : List Tk} {p e : Int} (h : Sc l i r p e) : l = s.data.toList.drop i → i ≤ s.size → ∀ acc : List Tk, acc.length ≤ i → Ev (fun k => lex_Scan.l0 k s acc ((i + skipN l : Nat) : Int)) (outS (acc ++ r) p e) := by
 induction h with
 | @done l i h =>
  intro hl hi acc ha
  have hlen : l.length = s.size - i := by rw [hl, List.length_drop, data_length]
  refine Ev.step (fun k => rfl) (Ev.neg (by omega) (Ev.eq (Ev.now _) ?_))
  simp [outS]
 | @bad l i kd e t h ht he =>
  intro hl hi acc ha
  have hlen : l.length = s.size - i := by rw [hl, List.length_drop, data_length]
  have hx : (s.extract (i + skipN l) s.size).data.toList = l.drop (skipN l) := by rw [ext_drop, hl, drop_drop', ← hl]
  have hn := next_ev (s.extract (i + skipN l) s.size) (by rw [ByteArray.size_extract]; omega) (by rw [ByteArray.size_extract]; omega)
  rw [hx, ht] at hn
  refine Ev.step (fun k => rfl) (Ev.pos (by omega) (Ev.pos (by omega) (Ev.pos (by omega) ?_)))
  rw [Int.toNat_natCast]
  refine Ev.bind hn (Ev.neg he (Ev.eq (Ev.now _) ?_))
  simp [outS, he]
 | @go l i kd p e t r h ht _ ih =>
  intro hl hi acc ha
  have hlen : l.length = s.size - i := by rw [hl, List.length_drop, data_length]
  have hx : (s.extract (i + skipN l) s.size).data.toList = l.drop (skipN l) := by rw [ext_drop, hl, drop_drop', ← hl]
  have hn := next_ev (s.extract (i + skipN l) s.size) (by rw [ByteArray.size_extract]; omega) (by rw [ByteArray.size_extract]; omega)
  rw [hx, ht] at hn
  have hp := tok_pre ht
  have hpl := hp.2.length_le
  have hpos : 0 < t.length := List.length_pos_iff.mpr hp.1
  rw [List.length_drop] at hpl
  have hi' : i + skipN l + t.length ≤ s.size := by omega
  have ha' : (acc ++ [(⟨kd, bA t, ((i + skipN l : Nat) : Int)⟩ : Tk)]).length ≤ i + skipN l + t.length := by rw [List.length_append, List.length_singleton]; omega
  refine Ev.step (fun k => rfl) (Ev.pos (by omega) (Ev.pos (by omega) (Ev.pos (by omega) ?_)))
  rw [Int.toNat_natCast]
  refine Ev.bind hn (Ev.pos rfl (Ev.pos (by omega) ?_))
  have hw : wrap64 (((i + skipN l : Nat) : Int) + ((bA t).size : Int)) = ((i + skipN l + t.length : Nat) : Int) := by rw [bA_size]; unfold wrap64; omega
  simp only [hw]
  refine Ev.pos (by omega) (Ev.pos (by omega) ?_)
  rw [Int.toNat_natCast]
  have hd : l.drop (skipN l + t.length) = s.data.toList.drop (i + skipN l + t.length) := by rw [hl, drop_drop', ← hl, Nat.add_assoc]
  refine Ev.one (a := lex_skip.f (s.extract (i + skipN l + t.length) s.size)) (b := ((skipN (l.drop (skipN l + t.length)) : Nat) : Int)) ?_ ?_
  ·unfold lex_skip.f
   rw [if_pos (by rw [ByteArray.size_extract]; omega), ext_drop, hd]
  ·have hle := skipN_le (l.drop (skipN l + t.length))
   rw [List.length_drop] at hle
   have hw2 : wrap64 (((i + skipN l + t.length : Nat) : Int) + ((skipN (l.drop (skipN l + t.length)) : Nat) : Int)) = ((i + skipN l + t.length + skipN (l.drop (skipN l + t.length)) : Nat) : Int) := by unfold wrap64; omega
   rw [hw2]
   have := ih hd hi' (acc ++ [⟨kd, bA t, ((i + skipN l : Nat) : Int)⟩]) ha'
   rw [List.append_assoc] at this
   exact this
theorem scan_ev (s : ByteArray) (hs : s.size ≤ 4096) {r : List Tk} {p e : Int} (h : Sc s.data.toList 0 r p e) : Ev (fun k => lex_Scan.f k s) (outS r p e) := by
 have hle := skipN_le s.data.toList
 rw [data_length] at hle
 refine Ev.neg (by omega) (Ev.one (a := lex_skip.f s) (b := ((skipN s.data.toList : Nat) : Int)) (by unfold lex_skip.f; rw [if_pos (by omega)]) ?_)
 have := scan_l s hs h rfl (Nat.zero_le _) [] (Nat.zero_le _)
 rw [Nat.zero_add, List.nil_append] at this
 exact this
end Go.Proofs.YtcmppjonpmgncaaGreatDoor.Q

/- Where tokens stand, and how long their texts are together. -/

namespace Go.Proofs.YtcmppjonpmgncaaGreatDoor.Q
open Go.RowKit Go.Proofs.YtcmppjonpmgncaaGreatDoorW.PrintWords Go.Proofs.YtcmppjonpmgncaaGreatDoorW.PrintLast Go.Proofs.YtcmppjonpmgncaaGreatDoorW.PrintMore
set_option linter.unusedVariables false
set_option linter.unusedSimpArgs false
theorem Sc.place {l : List UInt8} {i : Nat} {r : List Tk} {p e : Int} (h : Sc l i r p e) : e ≠ 0 → (i : Int) ≤ p ∧ p < ((i + l.length : Nat) : Int) := by
 induction h with
 | done _ => exact fun h => absurd rfl h
 | bad h _ _ => intro _; omega
 | @go l i kd p e t r h ht _ ih =>
  intro he
  have hp := (tok_pre ht).2.length_le
  have := ih he
  rw [List.length_drop] at this hp
  omega
theorem joinT_cons (x y : Tk) (r : List Tk) : joinT (x :: y :: r) = x.f1.data.toList ++ 32 :: joinT (y :: r) := by
 show Lib.join (x.f1.data.toList :: y.f1.data.toList :: r.map _) [32] = _
 simp [Lib.join, joinT]
theorem joinT_one (x : Tk) : joinT [x] = x.f1.data.toList := by show Lib.join [x.f1.data.toList] [32] = _; simp [Lib.join]
theorem Sc.size {l : List UInt8} {i : Nat} {r : List Tk} {p e : Int} (h : Sc l i r p e) : r.length ≤ l.length ∧ (joinT r).length ≤ 2 * l.length := by
 induction h with
 | done _ => exact ⟨Nat.zero_le _, Nat.zero_le _⟩
 | bad _ _ _ => exact ⟨Nat.zero_le _, Nat.zero_le _⟩
 | @go l i kd p e t r h ht _ ih =>
  have hp := (tok_pre ht).2.length_le
  have hpos : 0 < t.length := List.length_pos_iff.mpr (tok_pre ht).1
  rw [List.length_drop] at hp ih
  refine ⟨by rw [List.length_cons]; omega, ?_⟩
  cases r with
  | nil => rw [joinT_one]; show t.length ≤ _; omega
  | cons y r =>
   rw [joinT_cons, List.length_append, List.length_cons]
   show t.length + _ ≤ _
   omega
end Go.Proofs.YtcmppjonpmgncaaGreatDoor.Q

/- The anchor of the words' laws. -/

namespace Go.Proofs.YtcmppjonpmgncaaGreatDoor.Q
open Go.RowKit Go.Proofs.YtcmppjonpmgncaaGreatDoorW.PrintWords Go.Proofs.YtcmppjonpmgncaaGreatDoorW.PrintLast Go.Proofs.YtcmppjonpmgncaaGreatDoorW.PrintMore
set_option linter.unusedVariables false
set_option linter.unusedSimpArgs false
theorem awake_true : Ev (fun k => truantlaw02_awake.f k) true := by
 have h : truantlaw02_awake.f 40 = some true := by kernel_rfl
 exact Ev.of (fun k => truantlaw02_awake.mono k) h
end Go.Proofs.YtcmppjonpmgncaaGreatDoor.Q

/- The plain law of LexPlaces: by hand. -/

namespace Go.Proofs.YtcmppjonpmgncaaGreatDoor.Q
open Go.RowKit Go.Proofs.YtcmppjonpmgncaaGreatDoorW.PrintWords Go.Proofs.YtcmppjonpmgncaaGreatDoorW.PrintLast Go.Proofs.YtcmppjonpmgncaaGreatDoorW.PrintMore
set_option linter.unusedVariables false
set_option linter.unusedSimpArgs false
theorem rd_pre (pre r : List Tk) (t : Tk) : rd_T32 (pre ++ t :: r) (pre.length : Int) = t := by
 unfold rd_T32
 rw [Int.toNat_natCast, getD_at _ _ (by simp), List.getElem_append_right (Nat.le_refl _)]
 simp
theorem ext_mid (s : ByteArray) (i n : Nat) : (s.extract i (i + n)).data.toList = (s.data.toList.drop i).take n := by
 rw [ByteArray.data_extract, Array.toList_extract]
 simp [List.extract]
theorem join_loop (full : List Tk) (hf : full.length ≤ 4096) (T : Int → ByteArray → Prop) (r : ByteArray) (hr : strings_Join.f (full.map (·.f1)) ⟨#[32]⟩ = some r) : ∀ (d i : Nat), i + d = full.length →
  Ev (fun k => lex_Join.l0 k ((full.take i).map (·.f1)) full (full.length : Int) (i : Int)) r := by
 intro d
 induction d with
 | zero =>
  intro i hi
  rw [List.take_of_length_le (by omega)]
  exact Ev.step (fun k => rfl) (Ev.neg (by omega) (Ev.one hr (Ev.now _)))
 | succ d ih =>
  intro i hi
  have hw : wrap64 ((i : Int) + 1) = ((i + 1 : Nat) : Int) := by unfold wrap64; omega
  refine Ev.step (fun k => rfl) (Ev.pos (by omega) (Ev.pos (by omega) (Ev.pos (by omega) (Ev.pos (by simp; omega) ?_))))
  rw [hw]
  have e : (full.take i).map (·.f1) ++ [(rd_T32 full (i : Int)).f1] = (full.take (i + 1)).map (·.f1) := by
   rw [List.take_add_one, List.getElem?_eq_getElem (by omega), List.map_append]
   unfold rd_T32
   rw [Int.toNat_natCast, getD_at _ _ (by omega)]
   rfl
  rw [e]
  exact ih (i + 1) (by omega)
theorem join_ev (full : List Tk) (hf : full.length ≤ 4096) (hl : (joinT full).length ≤ 100000) : Ev (fun k => lex_Join.f k full) (bA (joinT full)) := by
 have hm : ((full.map (·.f1)).map (·.data.toList)) = full.map (fun x => x.f1.data.toList) := by rw [List.map_map]; rfl
 have h := join_loop full hf (fun _ _ => True) (bA (joinT full)) (by
  unfold strings_Join.f
  rw [hm]
  have e : (⟨#[32]⟩ : ByteArray).data.toList = [32] := rfl
  rw [e]
  rw [if_pos ⟨by rw [List.length_map]; omega, by show (joinT full).length ≤ _; omega⟩]
  rfl) full.length 0 (Nat.zero_add _)
 rw [List.take_zero] at h
 exact h
theorem same_loop (x z : List Tk) (hl : z.map ktT = x.map ktT) (hz : z.length ≤ 4096) : ∀ (d i : Nat), i + d = z.length → Ev (fun k => truantlaw02_LexPlaces.l1 k x z (i : Int)) true := by
 have hlen : z.length = x.length := by have := congrArg List.length hl; simpa using this
 intro d
 induction d with
 | zero => intro i hi; exact Ev.step (fun k => rfl) (Ev.neg (by omega) (Ev.now _))
 | succ d ih =>
  intro i hi
  have hw : wrap64 ((i : Int) + 1) = ((i + 1 : Nat) : Int) := by unfold wrap64; omega
  have e : ktT (rd_T32 z (i : Int)) = ktT (rd_T32 x (i : Int)) := by
   unfold rd_T32
   rw [Int.toNat_natCast, getD_at _ _ (by omega), getD_at _ _ (by omega)]
   have h1 : (z.map ktT)[i]? = (x.map ktT)[i]? := by rw [hl]
   rw [List.getElem?_map, List.getElem?_map, List.getElem?_eq_getElem (by omega), List.getElem?_eq_getElem (by omega)] at h1
   exact Option.some.inj h1
  have e0 := congrArg Prod.fst e
  have e1 := congrArg Prod.snd e
  refine Ev.step (fun k => rfl) (Ev.pos (by omega) (Ev.pos (by omega) (Ev.pos (by omega) (Ev.pos (congrArg ByteArray.toList e1) (Ev.pos e0 ?_)))))
  rw [hw]
  exact ih (i + 1) (by omega)
theorem wn {n : Nat} (h : n < 4097) : wrap64 ((n : Int) + 1) = ((n + 1 : Nat) : Int) := by unfold wrap64; omega
theorem wa {a b : Nat} (h : a + b ≤ 100000) : wrap64 ((a : Int) + (b : Int)) = ((a + b : Nat) : Int) := by unfold wrap64; omega
theorem places_l (s : ByteArray) (hs : s.size ≤ 4096) (full : List Tk) (hT : Ev (fun k => truantlaw02_LexPlaces.l0 k s full 0 (full.length : Int)) true ∧ ∀ en : Int, Ev (fun k => truantlaw02_LexPlaces.l0 k s full en (full.length : Int)) true) {l : List UInt8} {i : Nat} {r : List Tk} {p e : Int} (h : Sc l i r p e) : e = 0 → l = s.data.toList.drop i → i ≤ s.size →
  ∀ pre : List Tk, full = pre ++ r → pre.length ≤ i → ∀ en : Nat, en ≤ i → Ev (fun k => truantlaw02_LexPlaces.l0 k s full (en : Int) (pre.length : Int)) true := by
 induction h with
 | done h =>
  intro _ _ _ pre hf _ en _
  have : full.length = pre.length := by rw [hf, List.append_nil]
  rw [← this]
  exact hT.2 _
 | bad _ _ he => exact fun h => absurd h he
 | @go l i kd p e t r h ht k ih =>
  intro he hl hi pre hf hpre en hen
  have hp := tok_pre ht
  generalize skipN l = n at h ht k ih hf hp
  have hlen : l.length = s.size - i := by rw [hl, List.length_drop, data_length]
  have hpl := hp.2.length_le
  have hpos : 0 < t.length := List.length_pos_iff.mpr hp.1
  rw [List.length_drop] at hpl
  have hi' : i + n + t.length ≤ s.size := by omega
  have hbs : (bA t).size = t.length := bA_size t
  have hpl2 : pre.length < 4097 := by omega
  have hbz : ((bA t).size : Int) ≠ 0 := by rw [hbs]; omega
  have hpre' : pre.length + 1 ≤ i + n + t.length := by omega
  have hn1 : ¬ ((i + n : Nat) : Int) < (en : Int) := by omega
  have hn2 : ¬ ((i + n + t.length : Nat) : Int) > (s.size : Int) := by omega
  have hn3 : (0 : Int) ≤ ((i + n : Nat) : Int) := by omega
  have hn4 : ((i + n : Nat) : Int) ≤ ((i + n + t.length : Nat) : Int) := by omega
  have hn5 : ((i + n + t.length : Nat) : Int) ≤ (s.size : Int) := by omega
  have hfl1 : (pre.length : Int) < (full.length : Int) := by rw [hf, List.length_append, List.length_cons]; omega
  have hs5 : i + n + t.length ≤ 100000 := by omega
  have hw : wrap64 (((i + n : Nat) : Int) + ((bA t).size : Int)) = ((i + n + t.length : Nat) : Int) := by rw [hbs]; exact wa hs5
  have hw2 : wrap64 ((pre.length : Int) + 1) = ((pre.length + 1 : Nat) : Int) := wn hpl2
  have hrd : rd_T32 full (pre.length : Int) = ⟨kd, bA t, ((i + n : Nat) : Int)⟩ := by rw [hf]; exact rd_pre _ _ _
  have hfl : full.length = pre.length + (r.length + 1) := by rw [hf, List.length_append, List.length_cons]
  have hd : l.drop (n + t.length) = s.data.toList.drop (i + n + t.length) := by rw [hl, drop_drop', Nat.add_assoc]
  have hx : (s.extract (i + n) (i + n + t.length)).toList = (bA t).toList := by
   rw [ByteArray.toList_eq, ext_mid, bA_tl, ← drop_drop', ← hl]
   exact (List.prefix_iff_eq_take.mp hp.2).symm
  have key := ih he hd hi' (pre ++ [⟨kd, bA t, ((i + n : Nat) : Int)⟩]) (by rw [hf, List.append_assoc]; rfl) (by rw [List.length_append, List.length_singleton]; exact hpre') (i + n + t.length) (Nat.le_refl _)
  rw [List.length_append, List.length_singleton] at key
  refine Ev.step (fun k => rfl) (Ev.pos hfl1 (Ev.pos (Int.natCast_nonneg _) ?_))
  rw [hrd]
  simp only [hw, hw2]
  refine Ev.neg hn1 (Ev.neg hbz (Ev.neg hn2 (Ev.pos hn3 (Ev.pos hn4 (Ev.pos hn5 ?_)))))
  rw [Int.toNat_natCast, Int.toNat_natCast]
  exact Ev.pos hx key
theorem LexPlaces_pure : LexPlaces.Pure := by
 intro s _
 refine Ev.rounds ?_
 unfold truantlaw02_LexPlaces.f
 refine Ev.bind awake_true ?_
 refine Ev.congr (fun k => if_pos rfl) ?_
 by_cases h1 : (s.size : Int) > 4096
 ·exact Ev.pos h1 (Ev.now _)
 refine Ev.neg h1 ?_
 obtain ⟨x, p, e, hA⟩ := Sc.ex s.data.toList 0
 have hsl := data_length s
 refine Ev.bind (scan_ev s (by omega) hA) ?_
 by_cases he : e = 0
 ·have o1 : outS x p e = (x, 0, 0) := by unfold outS; rw [if_pos he]
  rw [o1]
  refine Ev.pos rfl ?_
  have hsz := hA.size
  rw [hsl] at hsz
  obtain ⟨z, k1, k2⟩ := Sc.joined hA he 0
  have hzl : z.length = x.length := by have := congrArg List.length k2; simpa using this
  have tail : ∀ en : Int, Ev (fun k => truantlaw02_LexPlaces.l0 k s x en (x.length : Int)) true := by
   intro en
   refine Ev.step (fun k => rfl) (Ev.neg (by omega) (Ev.bind (join_ev x (by omega) (by omega)) ?_))
   by_cases hj : ((bA (joinT x)).size : Int) > 4096
   ·exact Ev.pos hj (Ev.now _)
   ·refine Ev.neg hj (Ev.bind (scan_ev (bA (joinT x)) (by omega) k1) ?_)
    refine Ev.pos rfl (Ev.pos (by show ((z.length : Nat) : Int) = _; omega) ?_)
    exact same_loop x z k2 (by omega) z.length 0 (Nat.zero_add _)
  exact places_l s (by omega) x ⟨tail 0, tail⟩ hA he rfl (Nat.zero_le _) [] rfl (Nat.zero_le _) 0 (Nat.le_refl _)
 ·have o1 : outS x p e = ([], p, e) := by unfold outS; rw [if_neg he]
  have hpl := hA.place he
  rw [hsl] at hpl
  rw [o1]
  refine Ev.neg he (Ev.pos rfl (Ev.pos (by show p ≥ 0; omega) (Ev.eq (Ev.now _) ?_)))
  exact decide_eq_true (by show p < _; omega)
end Go.Proofs.YtcmppjonpmgncaaGreatDoor.Q

/- From what the row lists to what the calls read of the package-level variables: by hand. -/
namespace Go.Proofs.YtcmppjonpmgncaaGreatDoor.Q
open Go.RowKit Go.Proofs.YtcmppjonpmgncaaGreatDoorW.PrintWords Go.Proofs.YtcmppjonpmgncaaGreatDoorW.PrintLast Go.Proofs.YtcmppjonpmgncaaGreatDoorW.PrintMore
set_option linter.unusedVariables false
set_option linter.unusedSimpArgs false
theorem gES : Tryz.prog.globalNamed "strconv.ErrSyntax" = some 1 := by kernel_rfl
theorem gER : Tryz.prog.globalNamed "strconv.ErrRange" = some 2 := by kernel_rfl
theorem gPow : Tryz.prog.globalNamed "internal/strconv.uint64pow10" = some 5 := by kernel_rfl
theorem gESType : (Tryz.prog.globals[1]?).map (·.type) = some 62 := by kernel_rfl
theorem gERType : (Tryz.prog.globals[2]?).map (·.type) = some 62 := by kernel_rfl
theorem gPowType : (Tryz.prog.globals[5]?).map (·.type) = some 119 := by kernel_rfl
theorem cellsES : Tryz.prog.cellsOf 106 = 1 := by kernel_rfl
theorem cellsStr : Tryz.prog.cellsOf 9 = 1 := by kernel_rfl
theorem cellsU64 : Tryz.prog.cellsOf 54 = 1 := by kernel_rfl
theorem cellsPow : Tryz.prog.cellsOf 119 = 20 := by kernel_rfl
theorem star_ : "*" ++ "errors.errorString" = "*errors.errorString" := by decide
theorem rowES (u : TypeId) (h : Tryz.prog.typeName? 3 u = some "*errors.errorString") : u = 104 :=
 typeName_ptr_named (nm := "errors.errorString") (by rw [star_]; kernel_rfl) (by kernel_rfl) (by decide) u (by rw [star_]; exact h)
theorem powData : (Rows.laid_internal_strconv_uint64pow10 : DataW Unit) = Lib.tabData .u64 Lib.pow10Tab := by kernel_rfl
def listed : List (String × DataW Unit) := [("math/bits.deBruijn32tab", Rows.laid_math_bits_deBruijn32tab), ("math/bits.deBruijn64tab", Rows.laid_math_bits_deBruijn64tab), ("internal/strconv.uint64pow10", Rows.laid_internal_strconv_uint64pow10), ("unicode/utf8.acceptRanges", Rows.laid_unicode_utf8_acceptRanges), ("strconv.ErrRange", Rows.laid_strconv_ErrRange), ("strconv.ErrSyntax", Rows.laid_strconv_ErrSyntax), ("unicode/utf8.first", Rows.laid_unicode_utf8_first)]
theorem glob_of_laid {W : World} (h : laidMetH Tryz.prog listed W) : Glob W := by
 rw [MakeChecks.laidMetH_plain _ _ _ (by kernel_rfl)] at h
 have h2 := h.tail.tail
 have h4 := h2.tail.tail
 have h5 := h4.tail
 rw [powData] at h2
 have a := Lib.tabIs_of_head gPow gPowType Tryz.underlying119 Tryz.underlying54 cellsU64 cellsPow h2
 obtain ⟨p4, _, v4, _, _, _⟩ := laid_sentinel h4 gER gERType Tryz.underlying62 rowES Tryz.underlying104 Tryz.underlying106 rfl rfl Tryz.underlying9 cellsES cellsStr
 obtain ⟨p5, _, v5, _, _, _⟩ := laid_sentinel h5 gES gESType Tryz.underlying62 rowES Tryz.underlying104 Tryz.underlying106 rfl rfl Tryz.underlying9 cellsES cellsStr
 exact ⟨a, ⟨_, _, v5⟩, ⟨_, _, v4⟩⟩
end Go.Proofs.YtcmppjonpmgncaaGreatDoor.Q

