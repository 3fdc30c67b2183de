/- What the row of KindFields rests on, part 2: contracts of the functions that it reaches, and the plain law. -/
import Derived.Test.YthpglaekdadehaaJKindFields1
/- The plain law of KindFields. -/

namespace Go.Proofs.Ythpglaekdadehaa.Q
open Go.RowKit Go.Proofs.YthpglaekdadehaaW.PrintWords Go.Proofs.YthpglaekdadehaaW.PrintLast Go.Proofs.YthpglaekdadehaaW.PrintMore
set_option linter.unusedVariables false
set_option linter.unusedSimpArgs false
theorem kindAwake_ev : Ev (fun k => truantlaw03_awake.f k) true := Ev.of truantlaw03_awake.mono (k := 60) (by kernel_rfl)
theorem kindGreat_ev (l : List S43) (hm : l.length ≤ 9223372036854775807) (hf : ∀ j : Nat, j < l.length → (l.getD j z43).f1.length ≤ 9223372036854775807) :
    ∃ b, Ev (fun k => truantlaw03_great.f k l) b ∧ (b = false → l.length ≤ 16 ∧ ∀ j : Nat, j < l.length → (l.getD j z43).f0.size ≤ 100 ∧ (l.getD j z43).f1.length ≤ 12 ∧ ∀ q : Nat, q < (l.getD j z43).f1.length → ((l.getD j z43).f1.getD q z48).f0.size ≤ 100 ∧ ((l.getD j z43).f1.getD q z48).f1.size ≤ 100) := by
  by_cases hl : l.length ≤ 16
  case neg => exact ⟨true, Ev.pos (by omega) (Ev.now _), fun h => by cases h⟩
  have key : ∀ (d i : Nat), i ≤ l.length → l.length - i = d → ∃ b, Ev (fun k => truantlaw03_great.l0 k l (i : Int)) b ∧ (b = false → ∀ j : Nat, i ≤ j → j < l.length → (l.getD j z43).f0.size ≤ 100 ∧ (l.getD j z43).f1.length ≤ 12 ∧ ∀ q : Nat, q < (l.getD j z43).f1.length → ((l.getD j z43).f1.getD q z48).f0.size ≤ 100 ∧ ((l.getD j z43).f1.getD q z48).f1.size ≤ 100) := by
    intro d
    induction d with
    | zero =>
      intro i h0 hd
      exact ⟨false, Ev.step (fun k => rfl) (Ev.neg (by omega) (Ev.now _)), fun _ j hj hj2 => absurd hj2 (by omega)⟩
    | succ d ih =>
      intro i h0 hd
      obtain ⟨x, hx⟩ : ∃ x, x = l.getD i z43 := ⟨_, rfl⟩
      have rx : rd_T43 l (i : Int) = x := by rw [hx]; rfl
      have hfx := hf i (by omega)
      rw [← hx] at hfx
      have jt : Ev (fun k => truantlaw03_great.j1 k l (i : Int) true) true := Ev.step (f := fun _ => some true) (fun k => rfl) (Ev.now _)
      by_cases h1 : x.f0.size ≤ 100
      case neg =>
        refine ⟨true, Ev.step (fun k => rfl) (Ev.pos (by omega) (Ev.pos (by omega) ?_)), fun h => by cases h⟩
        rw [rx]
        exact Ev.pos (by omega) jt
      by_cases h2 : x.f1.length ≤ 12
      case neg =>
        refine ⟨true, Ev.step (fun k => rfl) (Ev.pos (by omega) (Ev.pos (by omega) ?_)), fun h => by cases h⟩
        rw [rx]
        refine Ev.neg (by omega) ?_
        rw [decide_eq_true (by omega)]
        exact jt
      obtain ⟨b, hb, hall⟩ := ih (i + 1) (by omega) (by omega)
      have inner : ∀ (d2 q : Nat), q ≤ x.f1.length → x.f1.length - q = d2 → ∃ b', Ev (fun k => truantlaw03_great.l1 k l (i : Int) (q : Int)) b' ∧ (b' = false → b = false ∧ ∀ m : Nat, q ≤ m → m < x.f1.length → (x.f1.getD m z48).f0.size ≤ 100 ∧ (x.f1.getD m z48).f1.size ≤ 100) := by
        intro d2
        induction d2 with
        | zero =>
          intro q hq hd2
          refine ⟨b, Ev.step (fun k => rfl) (Ev.pos (by omega) (Ev.pos (by omega) ?_)), fun h => ⟨h, fun m hm1 hm2 => absurd hm2 (by omega)⟩⟩
          rw [rx]
          refine Ev.neg (by omega) ?_
          rw [wrap_succ (by omega) (by omega)]
          exact hb
        | succ d2 ih2 =>
          intro q hq hd2
          obtain ⟨b', hb', hall'⟩ := ih2 (q + 1) (by omega) (by omega)
          have rf : rd_T48 x.f1 (q : Int) = x.f1.getD q z48 := rfl
          by_cases h3 : (x.f1.getD q z48).f0.size ≤ 100 ∧ (x.f1.getD q z48).f1.size ≤ 100
          · refine ⟨b', Ev.step (fun k => rfl) (Ev.pos (by omega) (Ev.pos (by omega) ?_)), fun h => ⟨(hall' h).1, fun m hm1 hm2 => ?_⟩⟩
            · rw [rx]
              refine Ev.pos (by omega) (Ev.pos (by omega) ?_)
              rw [rf]
              refine Ev.neg (by omega) (Ev.neg (by omega) ?_)
              rw [wrap_succ (by omega) (by omega)]
              exact hb'
            · by_cases e : m = q
              · subst e; exact h3
              · exact (hall' h).2 m (by omega) hm2
          · refine ⟨true, Ev.step (fun k => rfl) (Ev.pos (by omega) (Ev.pos (by omega) ?_)), fun h => by cases h⟩
            rw [rx]
            refine Ev.pos (by omega) (Ev.pos (by omega) ?_)
            rw [rf]
            by_cases h4 : (x.f1.getD q z48).f0.size ≤ 100
            · exact Ev.neg (by omega) (Ev.pos (by omega) (Ev.now _))
            · exact Ev.pos (by omega) (Ev.now _)
      obtain ⟨b', hb', hall'⟩ := inner x.f1.length 0 (by omega) (by omega)
      refine ⟨b', Ev.step (fun k => rfl) (Ev.pos (by omega) (Ev.pos (by omega) ?_)), fun h j hj hj2 => ?_⟩
      · rw [rx]
        refine Ev.neg (by omega) ?_
        rw [decide_eq_false (by omega)]
        exact Ev.step (f := fun k => truantlaw03_great.l1 k l (i : Int) 0) (fun k => rfl) hb'
      · by_cases e : j = i
        · subst e
          rw [← hx]
          exact ⟨h1, h2, fun q hq => (hall' h).2 q (by omega) hq⟩
        · exact hall (hall' h).1 j (by omega) hj2
  obtain ⟨b, hb, hall⟩ := key l.length 0 (by omega) (by omega)
  exact ⟨b, Ev.neg (by omega) hb, fun h => ⟨hl, fun j hj => hall h j (by omega) hj⟩⟩
theorem getD_wf {l : List S43} (h : ∀ x ∈ l, WF43 x) {j : Nat} (hj : j < l.length) : WF43 (l.getD j z43) := by
  rw [getD_at l _ hj]; exact h _ (List.getElem_mem hj)
theorem getF_wf {l : List S48} (h : ∀ x ∈ l, WF48 x) {j : Nat} (hj : j < l.length) : WF48 (l.getD j z48) := by
  rw [getD_at l _ hj]; exact h _ (List.getElem_mem hj)
theorem word_ne {s : ByteArray} (h : wordB s = true) : ¬ s.toList = [] := by
  intro e
  have := tl_len s
  rw [e] at this
  unfold wordB nameB at h
  simp at h this
  have := h.1.1.1
  omega
theorem elem_none {t : ByteArray} : (elemS t).1.toList = [] ↔ ¬ (elemS t).2 = true := by
  unfold elemS
  by_cases h : ptrB t = true
  · rw [if_pos h]
    simp only [not_true_eq_false, iff_false]
    unfold ptrB at h
    rw [Bool.and_eq_true] at h
    exact word_ne h.2
  · rw [if_neg h]
    simp only [Bool.false_eq_true, not_false_eq_true, iff_true]
    rw [ByteArray.toList_eq]
/-- The first place of a name, found from behind. -/
def Back (n : ByteArray) (fs : List S48) (c : Nat) (at_ : Int) : Prop :=
  (at_ = -1 ∧ ∀ j : Nat, c ≤ j → j < fs.length → fnameIs n (fs.getD j z48) = false) ∨
  ∃ a : Nat, at_ = a ∧ c ≤ a ∧ a < fs.length ∧ fnameIs n (fs.getD a z48) = true ∧ ∀ j : Nat, c ≤ j → j < a → fnameIs n (fs.getD j z48) = false
theorem back_zero {n : ByteArray} {fs : List S48} {at_ : Int} (h : Back n fs 0 at_) : at_ = findR (fnameIs n) fs := by
  rcases h with ⟨rfl, h⟩ | ⟨a, rfl, _, h1, h2, h3⟩
  · exact (find_none (z := z48) (fun j hj => h j (by omega) hj)).symm
  · exact (find_last (z := z48) h1 (fun j hj => h3 j (by omega) hj) h2).symm
section
variable {a b : List S43} {n : ByteArray} {i : Nat} {x : S43}
theorem kf_l1 (hi : i < a.length) (rx : rd_T43 a (i : Int) = x) (hx : x.f1.length ≤ 4398046511104) (t : List Int)
    (H : Ev (fun k => truantlaw03_KindFields.l2 k a b n (i : Int) (findR (fnameIs n) x.f1) t 0 0) true) :
    ∀ (c : Nat) (at_ : Int), c ≤ x.f1.length → Back n x.f1 c at_ → Ev (fun k => truantlaw03_KindFields.l1 k a b n (i : Int) at_ t 0 ((c : Int) - 1)) true := by
  intro c
  induction c with
  | zero =>
    intro at_ _ hb
    refine Ev.step (fun k => rfl) (Ev.neg (by omega) ?_)
    rw [back_zero hb]
    exact H
  | succ c ih =>
    intro at_ hc hb
    have e1 : (((c + 1 : Nat) : Int) - 1) = (c : Int) := by omega
    rw [e1]
    refine Ev.step (fun k => rfl) (Ev.pos (by omega) (Ev.pos (by omega) (Ev.pos (by omega) (Ev.pos (by omega) ?_))))
    rw [rx]
    refine Ev.pos (by omega) ?_
    have e2 : wrap64 ((c : Int) - 1) = (c : Int) - 1 := by unfold wrap64; omega
    have rf : rd_T48 x.f1 (c : Int) = x.f1.getD c z48 := rfl
    rw [e2, rf]
    by_cases h : fnameIs n (x.f1.getD c z48) = true
    · refine Ev.pos (beq_iff_eq.mp h) (ih _ (by omega) (.inr ⟨c, rfl, Nat.le_refl _, by omega, h, fun j h1 h2 => absurd h2 (by omega)⟩))
    · refine Ev.neg (fun q => h (beq_iff_eq.mpr q)) (ih _ (by omega) ?_)
      have hf : fnameIs n (x.f1.getD c z48) = false := by simpa using h
      rcases hb with ⟨rfl, h1⟩ | ⟨a', rfl, h0, h1, h2, h3⟩
      · refine .inl ⟨rfl, fun j hj hj2 => ?_⟩
        by_cases e : j = c
        · subst e; exact hf
        · exact h1 j (by omega) hj2
      · refine .inr ⟨a', rfl, by omega, h1, h2, fun j hj hj2 => ?_⟩
        by_cases e : j = c
        · subst e; exact hf
        · exact h3 j (by omega) hj2
theorem kf_l2 (hi : i < a.length) (hal : a.length ≤ 4398046511104) (rx : rd_T43 a (i : Int) = x) (hx : x.f1.length ≤ 4398046511104)
    (H : Ev (fun k => truantlaw03_KindFields.l0 k a b n ((i + 1 : Nat) : Int)) true) :
    ∀ (d q p : Nat), q ≤ x.f1.length → x.f1.length - q = d → p ≤ q → (linksL x.f1).drop p = linksD x.f1 d q → p ≤ (linksL x.f1).length → Ev (fun k => truantlaw03_KindFields.l2 k a b n (i : Int) (findR (fnameIs n) x.f1) (linksL x.f1) (p : Int) (q : Int)) true := by
  intro d
  induction d with
  | zero =>
    intro q p hq hd hpq hp hpl
    refine Ev.step (fun k => rfl) (Ev.pos (by omega) (Ev.pos (by omega) ?_))
    rw [rx]
    refine Ev.neg (by omega) (Ev.one (a := kind_Place.f x.f0 x.f1 n) (b := placeOf (findR (fnameIs n) x.f1)) rfl ?_)
    have hpe : p = (linksL x.f1).length := by
      have := congrArg List.length hp
      simp [linksD] at this
      omega
    have e1 : wrap64 ((i : Int) + 1) = ((i + 1 : Nat) : Int) := by rw [wrap_succ (by omega) (by omega)]; omega
    by_cases h : findR (fnameIs n) x.f1 < 0
    · have h2 : placeOf (findR (fnameIs n) x.f1) = (0, false) := by unfold placeOf; rw [if_pos h]
      rw [h2]
      refine Ev.neg (by rw [decide_eq_false (by omega)]; simp) (Ev.neg (by simp) (Ev.pos rfl (Ev.pos (by omega) ?_)))
      rw [e1]; exact H
    · have h2 : placeOf (findR (fnameIs n) x.f1) = (findR (fnameIs n) x.f1, true) := by unfold placeOf; rw [if_neg h]
      rw [h2]
      refine Ev.neg (by rw [decide_eq_true (by omega)]; simp) (Ev.pos rfl (Ev.pos rfl (Ev.pos (by omega) ?_)))
      rw [e1]; exact H
  | succ d ih =>
    intro q p hq hd hpq hp hpl
    refine Ev.step (fun k => rfl) (Ev.pos (by omega) (Ev.pos (by omega) ?_))
    rw [rx]
    refine Ev.pos (by omega) (Ev.pos (by omega) (Ev.bind (relem_ev _) ?_))
    have rf : rd_T48 x.f1 (q : Int) = x.f1.getD q z48 := rfl
    rw [rf]
    have eq1 : wrap64 ((q : Int) + 1) = ((q + 1 : Nat) : Int) := by rw [wrap_succ (by omega) (by omega)]; omega
    have ep1 : wrap64 ((p : Int) + 1) = ((p + 1 : Nat) : Int) := by rw [wrap_succ (by omega) (by omega)]; omega
    rw [eq1]
    unfold linksD at hp
    by_cases h : (elemS (x.f1.getD q z48).f1).2 = true
    · rw [if_pos h] at hp
      refine Ev.neg (fun e => elem_none.mp e h) ?_
      have hlt : p < (linksL x.f1).length := by
        have := congrArg List.length hp
        simp at this
        omega
      refine Ev.neg (by omega) (Ev.pos (by omega) (Ev.pos (by omega) ?_))
      have hrd : rd (linksL x.f1) (p : Int) = (q : Int) := by
        have h3 : (linksL x.f1)[p]? = some (q : Int) := by
          have := congrArg List.head? hp
          rw [List.head?_drop] at this
          simpa using this
        unfold rd
        simp [List.getD, h3]
      refine Ev.pos hrd ?_
      rw [ep1]
      refine ih (q + 1) (p + 1) (by omega) (by omega) (by omega) ?_ (by omega)
      have := congrArg List.tail hp
      rw [List.tail_drop] at this
      simpa using this
    · rw [if_neg h] at hp
      refine Ev.pos (elem_none.mpr h) ?_
      exact ih (q + 1) p (by omega) (by omega) (by omega) hp hpl
end
theorem KindFields_pure : KindFields.Pure := by
  intro a b n ha hb hn
  obtain ⟨ha1, ha2⟩ := ha
  obtain ⟨hb1, hb2⟩ := hb
  have hn : n.size ≤ 140737488351232 := hn
  have fl : ∀ {l : List S43}, (∀ x ∈ l, WF43 x) → ∀ j : Nat, j < l.length → (l.getD j z43).f1.length * 32 ≤ 140737488351232 := fun h j hj => (getD_wf h hj).2.1
  obtain ⟨b1, g1, _⟩ := kindGreat_ev a (by omega) (fun j hj => by have := fl ha2 j hj; omega)
  obtain ⟨b2, g2, _⟩ := kindGreat_ev b (by omega) (fun j hj => by have := fl hb2 j hj; omega)
  refine Ev.rounds (g := fun k => truantlaw03_KindFields.f k a b n) (Ev.bind kindAwake_ev (Ev.pos rfl (Ev.bind g1 ?_)))
  cases b1 with
  | true => exact Ev.pos rfl (Ev.now _)
  | false =>
    refine Ev.neg (by decide) (Ev.bind g2 ?_)
    cases b2 with
    | true => exact Ev.pos rfl (Ev.now _)
    | false =>
      refine Ev.neg (by decide) ?_
      by_cases hn2 : (n.size : Int) > 100
      · exact Ev.pos hn2 (Ev.now _)
      · refine Ev.neg hn2 ?_
        have key : ∀ (d i : Nat), i ≤ a.length → a.length - i = d → Ev (fun k => truantlaw03_KindFields.l0 k a b n (i : Int)) true := by
          intro d
          induction d with
          | zero =>
            intro i h0 hd
            refine Ev.step (fun k => rfl) (Ev.neg (by omega) (Ev.one (a := kind_Same.f a b) (b := sameS a b) rfl (Ev.bind (rsame_ev a b (by omega) (fun j hj => by have := fl ha2 j hj; omega)) ?_)))
            exact Ev.eq (Ev.now _) (by simp)
          | succ d ih =>
            intro i h0 hd
            obtain ⟨x, hx⟩ : ∃ x, x = a.getD i z43 := ⟨_, rfl⟩
            have rx : rd_T43 a (i : Int) = x := by rw [hx]; rfl
            have hxl := fl ha2 i (by omega)
            have hxw := getD_wf ha2 (j := i) (by omega)
            rw [← hx] at hxl hxw
            refine Ev.step (fun k => rfl) (Ev.pos (by omega) (Ev.pos (by omega) ?_))
            rw [rx]
            refine Ev.bind (links_ev x.f0 x.f1 (by omega) (fun j hj => by have := (getF_wf hxw.2.2 hj).2; simp only at this; omega)) ?_
            have e1 : wrap64 ((x.f1.length : Int) - 1) = ((x.f1.length : Nat) : Int) - 1 := by unfold wrap64; omega
            rw [e1]
            refine kf_l1 (by omega) rx (by omega) (linksL x.f1) ?_ x.f1.length (-1) (Nat.le_refl _) (.inl ⟨rfl, fun j hj hj2 => absurd hj2 (by omega)⟩)
            exact kf_l2 (by omega) (by omega) rx (by omega) (ih (i + 1) (by omega) (by omega)) x.f1.length 0 0 (by omega) (by omega) (by omega) rfl (by omega)
        exact key a.length 0 (by omega) (by omega)
end Go.Proofs.Ythpglaekdadehaa.Q
