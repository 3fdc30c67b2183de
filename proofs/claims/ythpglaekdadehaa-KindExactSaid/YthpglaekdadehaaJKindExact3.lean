/- What the row of KindExact rests on, part 3: contracts of the functions that it reaches, and the plain law. -/
import Derived.Test.YthpglaekdadehaaJKindExact2
/- Layer 3, kind: what a check that is passed tells; who is in the answer of Reach. -/

namespace Go.Proofs.Ythpglaekdadehaa.Q
open Go.RowKit Go.Proofs.YthpglaekdadehaaW.PrintWords Go.Proofs.YthpglaekdadehaaW.PrintLast Go.Proofs.YthpglaekdadehaaW.PrintMore
set_option linter.unusedVariables false
set_option linter.unusedSimpArgs false
theorem checkD_ok {l : List S43} : ∀ {d i : Nat}, (checkD l d i).2 = 0 → ∀ j : Nat, i ≤ j → j < i + d → oneS l j = 0
 | 0, i, _, j, h1, h2 => absurd h2 (by omega)
 | d + 1, i, h, j, h1, h2 => by
  unfold checkD at h
  by_cases h0 : oneS l i = 0
  ·rw [if_pos h0] at h
   by_cases e : j = i
   ·subst e; exact h0
   ·exact checkD_ok h j (by omega) (by omega)
  ·rw [if_neg h0] at h
   exact absurd h h0
theorem check_ok {l : List S43} (h : (checkS l).2 = 0) : ∀ j : Nat, j < l.length → oneS l j = 0 := by
 unfold checkS at h
 split at h
 ·simp at h
 ·exact fun j hj => checkD_ok h j (by omega) (by omega)
theorem fieldsD_ok {l : List S43} {fs : List S48} : ∀ {d i : Nat}, fieldsD l fs d i = 0 → ∀ j : Nat, i ≤ j → j < i + d → fieldS l (fs.take j) (fs.getD j z48).f0 (fs.getD j z48).f1 = 0
 | 0, i, _, j, h1, h2 => absurd h2 (by omega)
 | d + 1, i, h, j, h1, h2 => by
  unfold fieldsD at h
  by_cases h0 : fieldS l (fs.take i) (fs.getD i z48).f0 (fs.getD i z48).f1 = 0
  ·rw [if_pos h0] at h
   by_cases e : j = i
   ·subst e; exact h0
   ·exact fieldsD_ok h j (by omega) (by omega)
  ·rw [if_neg h0] at h
   exact absurd h h0
theorem one_ok {l : List S43} {i : Nat} (h : oneS l i = 0) : wordB (l.getD i z43).f0 = true ∧ (i : Int) ≤ findR (nameIs (l.getD i z43).f0) l ∧ ∀ j : Nat, j < (l.getD i z43).f1.length → isS l ((l.getD i z43).f1.getD j z48).f1 = true := by
 unfold oneS at h
 by_cases h1 : wordB (l.getD i z43).f0 = true
 ·rw [if_pos h1] at h
  by_cases h2 : findR (nameIs (l.getD i z43).f0) l < (i : Int)
  ·rw [if_pos h2] at h; simp at h
  ·rw [if_neg h2] at h
   by_cases h3 : (l.getD i z43).f1.length > 8
   ·rw [if_pos h3] at h; simp at h
   ·rw [if_neg h3] at h
    refine ⟨h1, by omega, fun j hj => ?_⟩
    have := fieldsD_ok h j (by omega) (by omega)
    unfold fieldS at this
    split at this
    ·split at this
     ·simp at this
     ·split at this
      ·assumption
      ·simp at this
    ·simp at this
 ·rw [if_neg h1] at h; simp at h
theorem word_size {s : ByteArray} (h : wordB s = true) : s.size ≤ 12 := by
 unfold wordB at h
 simp at h
 exact h.2.1
/-- '*' and a name. -/
def ptrOf (n : ByteArray) : ByteArray := (⟨#[42]⟩ : ByteArray) ++ n
theorem ptr_size (n : ByteArray) : (ptrOf n).size = 1 + n.size := by unfold ptrOf; rw [ByteArray.size_append]; rfl
theorem ptr_list (n : ByteArray) : (ptrOf n).data.toList = 42 :: n.data.toList := by
 unfold ptrOf
 rw [ByteArray.data_append]
 simp
theorem ptr_rest (n : ByteArray) : rest (ptrOf n) = n := by
 apply bytes_eq
 unfold rest
 rw [Lib.extract_toList, ptr_list, ByteArray.toList_eq]
 have : n.data.toList.length = n.size := by rw [Array.length_toList]; rfl
 rw [ptr_size]
 show List.take (1 + n.size - 1) n.data.toList = n.data.toList
 exact List.take_of_length_le (by omega)
theorem star_iff {t : ByteArray} : starB t = true ↔ ∃ r, t.data.toList = 42 :: r := by
 obtain ⟨⟨l⟩⟩ := t
 cases l with
 | nil =>
  constructor
  ·intro h; simp [starB, ByteArray.size] at h
  ·rintro ⟨r, h⟩; simp at h
 | cons x l =>
  have hsz : 0 < (ByteArray.size ⟨⟨x :: l⟩⟩) := by simp [ByteArray.size]
  have e4 : bt ⟨⟨x :: l⟩⟩ 0 = (x.toNat : Int) := (bt_at ⟨⟨x :: l⟩⟩ 0 (by simpa using hsz)).symm
  unfold starB
  rw [e4]
  simp only [hsz, decide_true, Bool.true_and]
  have e42 : (42 : UInt8).toNat = 42 := rfl
  constructor
  ·intro h
   have h := beq_iff_eq.mp h
   have : x = 42 := UInt8.toNat_inj.mp (by omega)
   exact ⟨l, by rw [this]⟩
  ·rintro ⟨r, h⟩
   have : x = 42 := by injection h
   rw [this]; rfl
theorem ptr_elem {n : ByteArray} (h : wordB n = true) : elemS (ptrOf n) = (n, true) := by
 unfold elemS ptrB
 rw [star_iff.mpr ⟨_, ptr_list n⟩, ptr_rest, h]
 rfl
theorem ptr_is {l : List S43} {n : ByteArray} (h : 0 ≤ findR (nameIs n) l) : isS l (ptrOf n) = true := by
 unfold isS
 rw [star_iff.mpr ⟨_, ptr_list n⟩, ptr_rest, decide_eq_true h]
 simp
theorem is_found {l : List S43} {t : ByteArray} (h : isS l t = true) (he : (elemS t).2 = true) : 0 ≤ findR (nameIs (elemS t).1) l := by
 have hp : ptrB t = true := by
  unfold elemS at he
  split at he
  ·assumption
  ·simp at he
 have hs : starB t = true := by unfold ptrB at hp; rw [Bool.and_eq_true] at hp; exact hp.1
 obtain ⟨r, hr⟩ := star_iff.mp hs
 unfold isS at h
 rw [ByteArray.toList_eq, hr] at h
 have h1 : ((42 :: r : List UInt8) == [105, 110, 116]) = false := by simp
 have h2 : ((42 :: r : List UInt8) == [98, 111, 111, 108]) = false := by simp
 rw [h1, h2, hs] at h
 simp at h
 unfold elemS
 rw [if_pos hp]
 exact h
theorem out_mem {l : List S43} {t s : ByteArray} : s ∈ outS l t ↔ Rc l t s := by
 unfold outS
 rw [List.mem_map]
 constructor
 ·rintro ⟨i, hi, rfl⟩
  have := (List.mem_filter.mp hi).2
  by_cases h : Rc l t (l.getD i z43).f0 ∧ findR (nameIs (l.getD i z43).f0) l = (i : Int)
  ·exact h.1
  ·rw [decB_false h] at this; cases this
 ·intro h
  have hf : 0 ≤ findR (nameIs s) l := by cases h <;> assumption
  obtain ⟨m, hm⟩ : ∃ m : Nat, findR (nameIs s) l = m := ⟨(findR (nameIs s) l).toNat, by omega⟩
  have hn := find_name hm
  have hml := find_lt hm
  refine ⟨m, List.mem_filter.mpr ⟨by simpa using hml, decB_true ?_⟩, hn⟩
  rw [hn]
  exact ⟨h, hm⟩
theorem out_len {l : List S43} {t : ByteArray} : (outS l t).length ≤ l.length := by
 unfold outS
 rw [List.length_map]
 exact Nat.le_trans (List.length_filter_le _ _) (by simp)
theorem has_ev (r : List ByteArray) (n : ByteArray) (hr : r.length ≤ 9223372036854775807) : Ev (fun k => truantlaw03_has.f k r n) (hasB n r) := by
 have key : ∀ (d i : Nat), i ≤ r.length → r.length - i = d → (∀ j : Nat, j < i → ((r.getD j ByteArray.empty).toList == n.toList) = false) → Ev (fun k => truantlaw03_has.l0 k r n (i : Int)) (hasB n r) := by
  intro d
  induction d with
  | zero =>
   intro i h0 hd h
   refine Ev.step (fun k => rfl) (Ev.neg (by omega) (Ev.eq (Ev.now _) ?_))
   symm
   unfold hasB
   rw [List.any_eq_false]
   intro x hx
   obtain ⟨j, hj, rfl⟩ := List.mem_iff_getElem.mp hx
   have := h j (by omega)
   rw [getD_at r _ hj] at this
   simp [this]
  | succ d ih =>
   intro i h0 hd h
   refine Ev.step (fun k => rfl) (Ev.pos (by omega) (Ev.pos (by omega) ?_))
   have rr : rdOf ByteArray.empty r (i : Int) = r.getD i ByteArray.empty := rfl
   rw [rr]
   by_cases e : (r.getD i ByteArray.empty).toList = n.toList
   ·refine Ev.pos e (Ev.eq (Ev.now _) ?_)
    symm
    unfold hasB
    rw [List.any_eq_true]
    exact ⟨r.getD i ByteArray.empty, by rw [getD_at r _ (by omega)]; exact List.getElem_mem _, beq_iff_eq.mpr e⟩
   ·refine Ev.neg e ?_
    rw [wrap_succ (by omega) (by omega)]
    exact ih (i + 1) (by omega) (by omega) (all_succ (P := fun j => ((r.getD j ByteArray.empty).toList == n.toList) = false) h (beq_eq_false_iff_ne.mpr e))
 exact key r.length 0 (by omega) (by omega) (fun j hj => absurd hj (by omega))
theorem wf_sz {l : List S43} (h1 : l.length * 40 ≤ 140737488351232) (h2 : ∀ x ∈ l, WF43 x) : Sz l where
 len := by omega
 fields := fun j hj => by have := (getD_wf h2 hj).2.1; omega
 names := fun j hj => (getD_wf h2 hj).1
 fnames := fun j q hj hq => (getF_wf (getD_wf h2 hj).2.2 hq).1
 types := fun j q hj hq => (getF_wf (getD_wf h2 hj).2.2 hq).2
theorem pointer_eq {n : ByteArray} (h : n.size ≤ 140737488351232) : kind_Pointer.f n = some (ptrOf n) := by unfold kind_Pointer.f; rw [if_pos (by omega)]; rfl
end Go.Proofs.Ythpglaekdadehaa.Q

/- The plain law of KindExact. -/

namespace Go.Proofs.Ythpglaekdadehaa.Q
open Go.RowKit Go.Proofs.YthpglaekdadehaaW.PrintWords Go.Proofs.YthpglaekdadehaaW.PrintLast Go.Proofs.YthpglaekdadehaaW.PrintMore
set_option linter.unusedVariables false
set_option linter.unusedSimpArgs false
section
variable {l : List S43} {t : ByteArray}
/-- Whether the struct at a place is reached, and the first of its name. -/
def Pl (l : List S43) (t : ByteArray) (i : Nat) : Prop := Rc l t (l.getD i z43).f0 ∧ findR (nameIs (l.getD i z43).f0) l = (i : Int)
structure Mk (l : List S43) (t : ByteArray) (S : List Bool) : Prop where
 len : S.length = l.length
 sound : ∀ i : Nat, i < l.length → S.getD i false = true → Pl l t i
def LeS (S S' : List Bool) : Prop := ∀ i : Nat, S.getD i false = true → S'.getD i false = true
/-- The links of a struct, from a field on, are marked. -/
def Done (l : List S43) (S : List Bool) (i q : Nat) : Prop := ∀ j m : Nat, q ≤ j → j < (l.getD i z43).f1.length → (elemS ((l.getD i z43).f1.getD j z48).f1).2 = true →
 findR (nameIs (elemS ((l.getD i z43).f1.getD j z48).f1).1) l = (m : Int) → S.getD m false = true
theorem set_get (S : List Bool) (m i : Nat) (hm : m < S.length) : (S.set m true).getD i false = if i = m then true else S.getD i false := by
 by_cases h : i = m
 ·subst h
  rw [if_pos rfl]
  simp [List.getD, List.getElem?_set_self hm]
 ·rw [if_neg h]
  simp [List.getD, List.getElem?_set_ne (Ne.symm h)]
theorem mk_set {S : List Bool} (h : Mk l t S) {s : ByteArray} {m : Nat} (hs : Rc l t s) (hm : findR (nameIs s) l = (m : Int)) : Mk l t (S.set m true) where
 len := by rw [List.length_set]; exact h.len
 sound := fun i hi hg => by
  rw [set_get S m i (by rw [h.len]; exact find_lt hm)] at hg
  by_cases e : i = m
  ·subst e
   have hn := find_name hm
   unfold Pl
   rw [hn]
   exact ⟨hs, hm⟩
  ·rw [if_neg e] at hg
   exact h.sound i hi hg
theorem le_set (S : List Bool) (m : Nat) (hm : m < S.length) : LeS S (S.set m true) := fun i hi => by
 rw [set_get S m i hm]
 split
 ·rfl
 ·exact hi
variable (wf : WFL l)
include wf
theorem rr_l2 (x7 i : Nat) (hi : i < l.length) : ∀ (d q : Nat) (S : List Bool), q ≤ (l.getD i z43).f1.length → (l.getD i z43).f1.length - q = d → Mk l t S →
  ∃ S', Mk l t S' ∧ LeS S S' ∧ (S.getD i false = true → Done l S' i q) ∧ ∀ r, Ev (fun k => truantref03_Reach.l1 k l S' (x7 : Int) ((i + 1 : Nat) : Int)) r → Ev (fun k => truantref03_Reach.l2 k l S (x7 : Int) (i : Int) (q : Int)) r := by
 have hlen := wf.len
 have ri : rd_T43 l (i : Int) = l.getD i z43 := rfl
 have hfl := wf.fields i hi
 have e1 : wrap64 ((i : Int) + 1) = ((i + 1 : Nat) : Int) := by rw [wrap_succ (by omega) (by omega)]; omega
 have stop : ∀ (S : List Bool) (q : Nat) (r : List Bool), Ev (fun k => truantref03_Reach.l1 k l S (x7 : Int) ((i + 1 : Nat) : Int)) r → Ev (fun k => truantref03_Reach.j4 k l S (x7 : Int) (i : Int) (q : Int) false) r := by
  intro S q r h
  refine Ev.step (f := fun k => truantref03_Reach.l1 k l S (x7 : Int) (wrap64 ((i : Int) + 1))) (fun k => rfl) ?_
  rw [e1]; exact h
 intro d
 induction d with
 | zero =>
  intro q S hq hd hS
  refine ⟨S, hS, fun _ h => h, fun _ j m h1 h2 => absurd h2 (by omega), fun r h => ?_⟩
  have hsl := hS.len
  refine Ev.step (fun k => rfl) (Ev.pos (by omega) ?_)
  by_cases hm : rdOf false S (i : Int) = true
  ·refine Ev.pos hm (Ev.pos (by omega) ?_)
   rw [ri, decide_eq_false (by omega)]
   exact stop S q r h
  ·exact Ev.neg hm (stop S q r h)
 | succ d ih =>
  intro q S hq hd hS
  have hsl := hS.len
  by_cases hm : S.getD i false = true
  ·have hm' : rdOf false S (i : Int) = true := hm
   have hp := hS.sound i hi hm
   have eq1 : wrap64 ((q : Int) + 1) = ((q + 1 : Nat) : Int) := by rw [wrap_succ (by omega) (by omega)]; omega
   have rf : rd_T48 (l.getD i z43).f1 (q : Int) = (l.getD i z43).f1.getD q z48 := rfl
   -- the field's struct, where there is one
   by_cases hf : (elemS ((l.getD i z43).f1.getD q z48).f1).2 = true ∧ 0 ≤ findR (nameIs (elemS ((l.getD i z43).f1.getD q z48).f1).1) l
   ·obtain ⟨f1, f2⟩ := hf
    obtain ⟨m, hmm⟩ : ∃ m : Nat, findR (nameIs (elemS ((l.getD i z43).f1.getD q z48).f1).1) l = m := ⟨(findR (nameIs (elemS ((l.getD i z43).f1.getD q z48).f1).1) l).toNat, by omega⟩
    have hml := find_lt hmm
    have hrc := Rc.link hp.1 hp.2 (j := q) (by omega) f1 f2
    obtain ⟨S', a1, a2, a3, a4⟩ := ih (q + 1) (S.set m true) (by omega) (by omega) (mk_set hS hrc hmm)
    have hle := le_set S m (by rw [hsl]; exact hml)
    refine ⟨S', a1, fun j h => a2 j (hle j h), fun _ j m' h1 h2 h3 h4 => ?_, fun r h => ?_⟩
    ·by_cases e : j = q
     ·subst e
      have : m' = m := by rw [hmm] at h4; omega
      subst this
      exact a2 _ (by rw [set_get S m' m' (by rw [hsl]; exact hml)]; simp)
     ·exact a3 (hle i hm) j m' (by omega) h2 h3 h4
    ·refine Ev.step (fun k => rfl) (Ev.pos (by omega) (Ev.pos hm' (Ev.pos (by omega) ?_)))
     rw [ri, decide_eq_true (by omega)]
     refine Ev.step (fun k => rfl) (Ev.pos (by omega) (Ev.pos (by omega) ?_))
     rw [ri]
     refine Ev.pos (by omega) ?_
     rw [rf]
     refine Ev.bind (relem_ev _) (Ev.neg (fun e => elem_none.mp e f1) (Ev.bind (rfind_ev l _ (by omega)) (Ev.pos f2 (Ev.bind (rfind_ev l _ (by omega)) ?_))))
     rw [hmm]
     refine Ev.pos (by omega) (Ev.pos (by omega) ?_)
     rw [eq1, Int.toNat_natCast]
     exact a4 r h
   ·obtain ⟨S', a1, a2, a3, a4⟩ := ih (q + 1) S (by omega) (by omega) hS
    refine ⟨S', a1, a2, fun hh j m' h1 h2 h3 h4 => ?_, fun r h => ?_⟩
    ·by_cases e : j = q
     ·subst e
      exact absurd ⟨h3, by omega⟩ hf
     ·exact a3 hh j m' (by omega) h2 h3 h4
    ·refine Ev.step (fun k => rfl) (Ev.pos (by omega) (Ev.pos hm' (Ev.pos (by omega) ?_)))
     rw [ri, decide_eq_true (by omega)]
     refine Ev.step (fun k => rfl) (Ev.pos (by omega) (Ev.pos (by omega) ?_))
     rw [ri]
     refine Ev.pos (by omega) ?_
     rw [rf]
     refine Ev.bind (relem_ev _) ?_
     rw [eq1]
     by_cases f1 : (elemS ((l.getD i z43).f1.getD q z48).f1).2 = true
     ·refine Ev.neg (fun e => elem_none.mp e f1) (Ev.bind (rfind_ev l _ (by omega)) (Ev.neg (fun h2 => hf ⟨f1, h2⟩) (a4 r h)))
     ·exact Ev.pos (elem_none.mpr f1) (a4 r h)
  ·refine ⟨S, hS, fun _ h => h, fun h => absurd h hm, fun r h => ?_⟩
   refine Ev.step (fun k => rfl) (Ev.pos (by omega) ?_)
   exact Ev.neg hm (stop S q r h)
theorem rr_l1 (x7 : Nat) (hx : x7 < l.length) : ∀ (d i : Nat) (S : List Bool), i ≤ l.length → l.length - i = d → Mk l t S →
  ∃ S', Mk l t S' ∧ LeS S S' ∧ (∀ j : Nat, i ≤ j → j < l.length → S.getD j false = true → Done l S' j 0) ∧ ∀ r, Ev (fun k => truantref03_Reach.l0 k l S' ((x7 + 1 : Nat) : Int)) r → Ev (fun k => truantref03_Reach.l1 k l S (x7 : Int) (i : Int)) r := by
 have hlen := wf.len
 have e1 : wrap64 ((x7 : Int) + 1) = ((x7 + 1 : Nat) : Int) := by rw [wrap_succ (by omega) (by omega)]; omega
 intro d
 induction d with
 | zero =>
  intro i S hi hd hS
  refine ⟨S, hS, fun _ h => h, fun j h1 h2 => absurd h2 (by omega), fun r h => Ev.step (fun k => rfl) (Ev.neg (by omega) ?_)⟩
  rw [e1]; exact h
 | succ d ih =>
  intro i S hi hd hS
  obtain ⟨S1, a1, a2, a3, a4⟩ := rr_l2 (t := t) wf x7 i (by omega) _ 0 S (by omega) rfl hS
  obtain ⟨S2, b1, b2, b3, b4⟩ := ih (i + 1) S1 (by omega) (by omega) a1
  refine ⟨S2, b1, fun j h => b2 j (a2 j h), fun j h1 h2 h3 => ?_, fun r h => Ev.step (fun k => rfl) (Ev.pos (by omega) (a4 r (b4 r h)))⟩
  by_cases e : j = i
  ·subst e
   exact fun q m k1 k2 k3 k4 => b2 _ (a3 h3 q m k1 k2 k3 k4)
  ·exact b3 j (by omega) h2 (a2 j h3)
def Closed (l : List S43) (S : List Bool) : Prop := ∀ j : Nat, j < l.length → S.getD j false = true → Done l S j 0
def cnt (l : List S43) (S : List Bool) : Nat := ((List.range l.length).filter fun i => S.getD i false).length
omit wf in
/-- The root is marked. -/
def RootIn (l : List S43) (t : ByteArray) (S : List Bool) : Prop := ∀ m : Nat, (elemS t).2 = true → findR (nameIs (elemS t).1) l = (m : Int) → S.getD m false = true
omit wf in
theorem closed_all {S : List Bool} (hc : Closed l S) (hr : RootIn l t S) {s : ByteArray} (h : Rc l t s) : ∀ m : Nat, findR (nameIs s) l = (m : Int) → S.getD m false = true := by
 induction h with
 | root h1 _ => exact fun m hm => hr m h1 hm
 | link h0 h1 h2 h3 h4 ih => exact fun m hm => hc _ (find_lt h1) (ih _ h1) _ m (by omega) h2 h3 hm
theorem rr_l0 : ∀ (d x7 : Nat) (S : List Bool), x7 ≤ l.length → l.length - x7 = d → Mk l t S → RootIn l t S → (Closed l S ∨ x7 + 1 ≤ cnt l S) →
  ∃ S', Mk l t S' ∧ RootIn l t S' ∧ Closed l S' ∧ Ev (fun k => truantref03_Reach.l0 k l S (x7 : Int)) S' := by
 have hlen := wf.len
 intro d
 induction d with
 | zero =>
  intro x7 S hx hd hS hr hc
  refine ⟨S, hS, hr, hc.resolve_right (fun h => ?_), Ev.step (fun k => rfl) (Ev.neg (by omega) (Ev.now _))⟩
  have := List.length_filter_le (fun i => S.getD i false) (List.range l.length)
  unfold cnt at h
  simp only [List.length_range] at this
  omega
 | succ d ih =>
  intro x7 S hx hd hS hr hc
  obtain ⟨S1, a1, a2, a3, a4⟩ := rr_l1 (t := t) wf x7 (by omega) _ 0 S (by omega) rfl hS
  have hr1 : RootIn l t S1 := fun m h1 h2 => a2 m (hr m h1 h2)
  have hc1 : Closed l S1 ∨ (x7 + 1) + 1 ≤ cnt l S1 := by
   by_cases hcl : Closed l S
   ·refine .inl (fun j hj hs q m k1 k2 k3 k4 => a2 _ ?_)
    have hp := a1.sound j hj hs
    exact hcl j hj (closed_all hcl hr hp.1 j hp.2) q m k1 k2 k3 k4
   ·refine .inr ?_
    have hcount := hc.resolve_left hcl
    unfold Closed Done at hcl
    simp only [Classical.not_forall, not_imp] at hcl
    obtain ⟨j, hj, hs, q, m, k1, k2, k3, k4, hno⟩ := hcl
    have hyes := a3 j (by omega) hj hs q m k1 k2 k3 k4
    have hlt := filter_lt (q := fun i => S.getD i false) (p := fun i => S1.getD i false) (fun i h => a2 i h) (l := List.range l.length) (m := m) (by simpa using find_lt k4) hyes (by simpa using hno)
    unfold cnt at hcount ⊢
    omega
  obtain ⟨S2, b1, b2, b3, b4⟩ := ih (x7 + 1) S1 (by omega) (by omega) a1 hr1 hc1
  exact ⟨S2, b1, b2, b3, Ev.step (fun k => rfl) (Ev.pos (by omega) (a4 S2 b4))⟩
theorem rreach_ev : ∃ S, Ev (fun k => truantref03_Reach.f k l t) S ∧ S.length = l.length ∧ ∀ i : Nat, i < l.length → S.getD i false = decB (Pl l t i) := by
 have hlen := wf.len
 have h0 : Mk l t (List.replicate l.length false) := ⟨by simp, fun i hi h => by simp [List.getD, hi] at h⟩
 by_cases hroot : (elemS t).2 = true ∧ 0 ≤ findR (nameIs (elemS t).1) l
 ·obtain ⟨h1, h2⟩ := hroot
  obtain ⟨m, hm⟩ : ∃ m : Nat, findR (nameIs (elemS t).1) l = m := ⟨(findR (nameIs (elemS t).1) l).toNat, by omega⟩
  have hml := find_lt hm
  have hS := mk_set h0 (Rc.root h1 h2) hm
  have hget : ((List.replicate l.length false).set m true).getD m false = true := by rw [set_get _ _ _ (by simpa using hml)]; simp
  have hr : RootIn l t ((List.replicate l.length false).set m true) := fun m' _ h4 => by
   have : m' = m := by rw [hm] at h4; omega
   subst this; exact hget
  obtain ⟨S, a1, a2, a3, a4⟩ := rr_l0 wf _ 0 _ (by omega) rfl hS hr (.inr (by
   unfold cnt
   have : 0 < ((List.range l.length).filter fun i => ((List.replicate l.length false).set m true).getD i false).length := List.length_pos_of_mem (List.mem_filter.mpr ⟨by simpa using hml, hget⟩)
   omega))
  refine ⟨S, ?_, a1.len, fun i hi => ?_⟩
  ·refine Ev.pos (by omega) (Ev.pos (by omega) (Ev.one (b := List.replicate l.length false) (by simp) (Ev.bind (relem_ev t) (Ev.neg (fun e => elem_none.mp e h1) (Ev.bind (rfind_ev l _ (by omega)) ?_)))))
   rw [decide_eq_false (by omega)]
   refine Ev.step (f := fun k => (truantref03_Find.f k l (elemS t).1).bind fun t225 => (if 0 ≤ t225 then (if t225 < ((List.replicate l.length false).length : Int) then (truantref03_Reach.l0 k l ((List.replicate l.length false).set (t225 : Int).toNat true) 0) else (none)) else (none))) (fun k => rfl) (Ev.bind (rfind_ev l _ (by omega)) ?_)
   rw [hm]
   refine Ev.pos (by omega) (Ev.pos (by simp; omega) ?_)
   rw [Int.toNat_natCast]
   exact a4
  ·by_cases hp : Pl l t i
   ·rw [decB_true hp]
    exact closed_all a3 a2 hp.1 i hp.2
   ·rw [decB_false hp]
    cases hg : S.getD i false
    ·rfl
    ·exact absurd (a1.sound i hi hg) hp
 ·have hno : ∀ s, ¬ Rc l t s := by
   intro s hs
   induction hs with
   | root h1 h2 => exact hroot ⟨h1, h2⟩
   | link _ _ _ _ _ ih => exact ih
  refine ⟨List.replicate l.length false, ?_, by simp, fun i hi => ?_⟩
  ·have jt : Ev (fun k => truantref03_Reach.j0 k l (List.replicate l.length false) (elemS t).1 true) (List.replicate l.length false) := Ev.step (f := fun _ => some (List.replicate l.length false)) (fun k => rfl) (Ev.now _)
   refine Ev.pos (by omega) (Ev.pos (by omega) (Ev.one (b := List.replicate l.length false) (by simp) (Ev.bind (relem_ev t) ?_)))
   by_cases h1 : (elemS t).2 = true
   ·refine Ev.neg (fun e => elem_none.mp e h1) (Ev.bind (rfind_ev l _ (by omega)) ?_)
    rw [decide_eq_true (by
     by_cases h2 : 0 ≤ findR (nameIs (elemS t).1) l
     ·exact absurd ⟨h1, h2⟩ hroot
     ·omega)]
    exact jt
   ·exact Ev.pos (elem_none.mpr h1) jt
  ·rw [decB_false (fun hp => hno _ hp.1)]
   simp [List.getD, hi]
end
noncomputable def outD (l : List S43) (t : ByteArray) : Nat → Nat → List ByteArray
 | 0, _ => []
 | d + 1, i => if decB (Pl l t i) = true then (l.getD i z43).f0 :: outD l t d (i + 1) else outD l t d (i + 1)
theorem outD_eq (l : List S43) (t : ByteArray) : ∀ d i : Nat, outD l t d i = ((List.range' i d).filter fun j => decB (Pl l t j)).map fun j => (l.getD j z43).f0
 | 0, i => by simp [outD]
 | d + 1, i => by
  unfold outD
  rw [List.range'_succ, List.filter_cons, outD_eq l t d (i + 1)]
  split <;> rfl
theorem outS_eq (l : List S43) (t : ByteArray) : outS l t = outD l t l.length 0 := by
 rw [outD_eq]
 unfold outS
 rw [List.range_eq_range']
 rfl
theorem ke_l0 (l : List S43) (t : ByteArray) (S : List Bool) (o : List ByteArray) (hlen : l.length ≤ 16) (hS2 : S.length = l.length) (hS3 : ∀ i : Nat, i < l.length → S.getD i false = decB (Pl l t i)) (hol : o.length ≤ 16) :
  ∀ (d i p : Nat), i ≤ l.length → l.length - i = d → p ≤ i → p ≤ o.length → o.drop p = outD l t d i → Ev (fun k => truantlaw03_KindExact.l0 k l o S (p : Int) (i : Int)) true := by
 intro d
 induction d with
 | zero =>
  intro i p hi hd hp hpl hdr
  refine Ev.step (fun k => rfl) (Ev.neg (by omega) (Ev.eq (Ev.now _) ?_))
  have h2 : (o.drop p).length = 0 := by rw [hdr]; rfl
  rw [List.length_drop] at h2
  exact beq_iff_eq.mpr (by omega)
 | succ d ih =>
  intro i p hi hd hp hpl hdr
  refine Ev.step (fun k => rfl) (Ev.pos (by omega) (Ev.pos (by omega) (Ev.pos (by omega) ?_)))
  have ei : wrap64 ((i : Int) + 1) = ((i + 1 : Nat) : Int) := by rw [wrap_succ (by omega) (by omega)]; omega
  have ep : wrap64 ((p : Int) + 1) = ((p + 1 : Nat) : Int) := by rw [wrap_succ (by omega) (by omega)]; omega
  have hg := hS3 i (by omega)
  unfold outD at hdr
  rw [ei]
  by_cases h : decB (Pl l t i) = true
  ·rw [if_pos h] at hdr
   have hlt : p < o.length := by
    have h2 : 0 < (o.drop p).length := by rw [hdr]; simp
    rw [List.length_drop] at h2
    omega
   have hrd : rdOf ByteArray.empty o (p : Int) = (l.getD i z43).f0 := by
    have h3 : o[p]? = some (l.getD i z43).f0 := by
     have h4 : (o.drop p).head? = some (l.getD i z43).f0 := by rw [hdr]; rfl
     rw [List.head?_drop] at h4
     exact h4
    show o.getD p ByteArray.empty = _
    rw [List.getD, h3]; rfl
   refine Ev.pos (by show S.getD i false = true; rw [hg]; exact h) (Ev.neg (by omega) (Ev.pos (by omega) (Ev.pos (by omega) (Ev.pos (by rw [hrd]; rfl) ?_))))
   rw [ep]
   refine ih (i + 1) (p + 1) (by omega) (by omega) (by omega) (by omega) ?_
   have h5 : (o.drop p).tail = outD l t d (i + 1) := by rw [hdr]; rfl
   rw [List.tail_drop] at h5
   exact h5
  ·rw [if_neg h] at hdr
   refine Ev.neg (by show ¬ S.getD i false = true; rw [hg]; exact h) ?_
   exact ih (i + 1) p (by omega) (by omega) (by omega) hpl hdr
set_option maxHeartbeats 1000000 in
theorem KindExact_pure : KindExact.Pure := by
 intro l t n hl ht hn
 obtain ⟨hl1, hl2⟩ := hl
 have hn : n.size ≤ 140737488351232 := hn
 have sz := wf_sz hl1 hl2
 obtain ⟨b, hg, hgf⟩ := kindGreat_ev l (by have := sz.len; omega) (fun j hj => by have := sz.fields j hj; omega)
 refine Ev.rounds (g := fun k => truantlaw03_KindExact.f k l t n) (Ev.bind kindAwake_ev (Ev.pos rfl (Ev.bind hg ?_)))
 cases b with
 | true => exact Ev.pos rfl (Ev.now _)
 | false =>
 refine Ev.neg (by decide) ?_
 obtain ⟨g1, g2⟩ := hgf rfl
 have wf : WFL l := ⟨g1, fun j hj => (g2 j hj).2.1, fun j hj => (g2 j hj).1, fun j q hj hq => ((g2 j hj).2.2 q hq).2⟩
 by_cases ht2 : (t.size : Int) > 100
 ·exact Ev.pos ht2 (Ev.now _)
 refine Ev.neg ht2 ?_
 by_cases hn2 : (n.size : Int) > 100
 ·exact Ev.pos hn2 (Ev.now _)
 refine Ev.neg hn2 ?_
 refine Ev.bind (check_ev l sz) (Ev.bind (rcheck_ev l sz) (Ev.bind (elem_ev t (by omega)) (Ev.one (a := kind_Find.f l n) (b := placeOf (findR (nameIs n) l)) rfl (Ev.bind (rfind_ev l n (by omega)) (Ev.pos rfl (Ev.pos rfl (Ev.bind (relem_ev t) (Ev.pos rfl ?_))))))))
 have he : ((elemS t).2 != ((elemS t).1.toList != [])) = false := by
  cases h : (elemS t).2 with
  | true => rw [bne_iff_ne.mpr (fun e => elem_none.mp e h)]; rfl
  | false => rw [bne_eq_false_iff_eq.mpr (elem_none.mpr (by rw [h]; decide))]; rfl
 refine Ev.neg (by rw [he]; decide) ?_
 obtain ⟨S, hS1, hS2, hS3⟩ := rreach_ev (t := t) wf
 have tail : Ev (fun k => (kind_Is.f k l t).bind fun t247 => ((truantref03_Is.f k l t).bind fun t248 => (if (t247 != t248) = true then (none) else ((kind_Pointer.f n).bind fun t249 => (if 1 + n.size ≤ 9223372036854775807 then (if t249.toList = ((⟨#[42]⟩ : ByteArray) ++ n).toList then ((kind_Reach.f k l t).bind fun t250 => ((truantref03_Reach.f k l t).bind fun t253 => (truantlaw03_KindExact.l0 k l t250 t253 0 0))) else (none)) else (none)))))) true := by
  refine Ev.bind (is_ev l t) (Ev.bind (ris_ev l t (by omega)) (Ev.neg (by simp) (Ev.one (pointer_eq (by omega)) (Ev.pos (by omega) (Ev.pos rfl (Ev.bind (reach_ev l wf t (by omega)) (Ev.bind hS1 ?_)))))))
  exact ke_l0 l t S (outS l t) g1 hS2 hS3 (Nat.le_trans out_len g1) l.length 0 0 (by omega) (by omega) (by omega) (by omega) (by rw [List.drop_zero]; exact outS_eq l t)
 by_cases h : findR (nameIs n) l < 0
 ·have h2 : placeOf (findR (nameIs n) l) = (0, false) := by unfold placeOf; rw [if_pos h]
  rw [h2]
  exact Ev.neg (by rw [decide_eq_false (by omega)]; simp) (Ev.neg (by simp) (Ev.pos rfl tail))
 ·have h2 : placeOf (findR (nameIs n) l) = (findR (nameIs n) l, true) := by unfold placeOf; rw [if_neg h]
  rw [h2]
  exact Ev.neg (by rw [decide_eq_true (by omega)]; simp) (Ev.pos rfl (Ev.pos rfl tail))
end Go.Proofs.Ythpglaekdadehaa.Q
