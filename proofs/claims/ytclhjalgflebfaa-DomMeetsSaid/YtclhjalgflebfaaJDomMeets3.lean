/- What the row of DomMeets rests on, part 3: contracts of the functions that it reaches, and the plain law. -/
import Derived.Test.YtclhjalgflebfaaJDomMeets2
/- The tree that grow makes: places by the order, and the nearest ones. -/

namespace Go.Proofs.Ytclhjalgflebfaa.Q
open Go.RowKit Go.Proofs.YtclhjalgflebfaaW.PrintWords Go.Proofs.YtclhjalgflebfaaW.PrintLast Go.Proofs.YtclhjalgflebfaaW.PrintMore
set_option linter.unusedVariables false
set_option linter.unusedSimpArgs false
theorem places_spec {n : Nat} : ∀ (xs : List Int) (k : Nat) (a : List Int), a.length = n → xs.Nodup → (∀ x ∈ xs, 0 ≤ x ∧ x < (n : Int)) →
  ∃ a', (xs.zipIdx k).foldlM (fun (a : List Int) (x : Int × Nat) => if 0 ≤ x.1 ∧ x.1 < (a.length : Int) then some (a.set x.1.toNat (x.2 : Int)) else none) a = some a' ∧ a'.length = n ∧
   (∀ (i : Nat) (hi : i < xs.length), fnI n a' xs[i] = ((k + i : Nat) : Int)) ∧ (∀ x, x ∉ xs → fnI n a' x = fnI n a x)
 | [], k, a, ha, _, _ => ⟨a, rfl, ha, fun i hi => absurd hi (Nat.not_lt_zero _), fun _ _ => rfl⟩
 | x :: xs, k, a, ha, hnd, hr => by
  obtain ⟨h0, h1⟩ := hr x List.mem_cons_self
  obtain ⟨hx, hnd'⟩ := List.nodup_cons.mp hnd
  have hl : (a.set x.toNat (k : Int)).length = n := by rw [List.length_set]; exact ha
  obtain ⟨a', p1, p2, p3, p4⟩ := places_spec xs (k + 1) (a.set x.toNat (k : Int)) hl hnd' (fun y hy => hr y (List.mem_cons_of_mem _ hy))
  refine ⟨a', ?_, p2, fun i hi => ?_, fun y hy => ?_⟩
  ·rw [List.zipIdx_cons, List.foldlM_cons]
   simp only
   rw [if_pos ⟨h0, by rw [ha]; exact h1⟩]
   exact p1
  ·cases i with
   | zero =>
    rw [List.getElem_cons_zero, p4 x hx, fn_set ha h0 h1, put_same]
    rfl
   | succ i =>
    rw [List.getElem_cons_succ, p3 i (by simpa using hi)]
    omega
  ·rw [p4 y (fun q => hy (List.mem_cons_of_mem _ q)), fn_set ha h0 h1, put_other _ (fun e => hy (by rw [e]; exact List.mem_cons_self))]
theorem fn_none (n : Nat) (x : Int) : fnI n (List.replicate n (-1)) x = -1 := by
 unfold fnI
 split
 ·unfold rd
  rw [getD_at _ _ (by rw [List.length_replicate]; omega), List.getElem_replicate]
 ·rfl
theorem aheadTo_mem {l : List S40} {b i : Int} : ∀ n, i ∈ aheadTo l n b ↔ 0 ≤ i ∧ i < (n : Int) ∧ b ∈ nextOf l i := by
 intro n
 induction n with
 | zero => simp [aheadTo]; omega
 | succ n ih =>
  unfold aheadTo
  rw [List.mem_append, ih]
  constructor
  ·rintro (⟨h0, h1, h2⟩ | h)
   ·exact ⟨h0, by omega, h2⟩
   ·obtain ⟨y, hy, rfl⟩ := List.mem_map.mp h
    obtain ⟨hy1, hy2⟩ := List.mem_filter.mp hy
    have : y = b := by simpa using hy2
    subst this
    exact ⟨by omega, by omega, hy1⟩
  ·rintro ⟨h0, h1, h2⟩
   by_cases e : i = (n : Int)
   ·subst e
    exact .inr (List.mem_map.mpr ⟨b, List.mem_filter.mpr ⟨h2, by simp⟩, rfl⟩)
   ·exact .inl ⟨h0, by omega, h2⟩
theorem rows_mem {l : List S40} {b p : Int} (h0 : 0 ≤ b) (h1 : b < (l.length : Int)) : p ∈ rowOf (aheadRows l) b ↔ 0 ≤ p ∧ p < (l.length : Int) ∧ b ∈ nextOf l p := by
 unfold rowOf aheadRows
 rw [getD_at _ _ (by simp; omega)]
 simp only [List.getElem_map, List.getElem_range]
 rw [aheadTo_mem, show ((b.toNat : Nat) : Int) = b by omega]
theorem rows_none {l : List S40} {b : Int} (h : ¬ b < (l.length : Int)) (h0 : 0 ≤ b) : rowOf (aheadRows l) b = [] := by
 unfold rowOf
 rw [List.getD_eq_getElem?_getD, List.getElem?_eq_none (by simp [aheadRows]; omega)]
 rfl
theorem reach_bound {prev : Int → List Int} {at_ : Int → Int} (g : Gr prev at_) (n : Nat) (hlt : ∀ x, at_ x ≠ -1 → 0 ≤ x ∧ x < (n : Int)) (y : Int) : ∀ x, Av prev at_ y x → ∃ q, AvR prev at_ y q x ∧ q ≤ n + 1 := by
 have filt : ∀ {α : Type} (p q : α → Bool) (l : List α), (∀ x ∈ l, p x = true → q x = true) → (l.filter p).length ≤ (l.filter q).length ∧ ((∃ x ∈ l, q x = true ∧ p x = false) → (l.filter p).length + 1 ≤ (l.filter q).length) := by
  intro α p q l
  induction l with
  | nil => intro _; exact ⟨Nat.le_refl _, fun ⟨x, hx, _⟩ => by cases hx⟩
  | cons a l ih =>
   intro h
   obtain ⟨i1, i2⟩ := ih (fun x hx => h x (List.mem_cons_of_mem _ hx))
   have ha := h a List.mem_cons_self
   rw [List.filter_cons, List.filter_cons]
   cases hp : p a with
   | true =>
    rw [ha hp]
    simp only [if_true, List.length_cons]
    refine ⟨by omega, ?_⟩
    rintro ⟨x, hx, h1, h2⟩
    rcases List.mem_cons.mp hx with rfl | hx
    ·rw [hp] at h2; cases h2
    ·have := i2 ⟨x, hx, h1, h2⟩; omega
   | false =>
    cases hq : q a with
    | true =>
     simp only [if_true, Bool.false_eq_true, if_false, List.length_cons]
     exact ⟨by omega, fun _ => by omega⟩
    | false =>
     simp only [Bool.false_eq_true, if_false]
     refine ⟨i1, ?_⟩
     rintro ⟨x, hx, h1, h2⟩
     rcases List.mem_cons.mp hx with rfl | hx
     ·rw [hq] at h1; cases h1
     ·exact i2 ⟨x, hx, h1, h2⟩
 let P : Nat → Int → Prop := fun q x => ∃ q', q' ≤ q ∧ AvR prev at_ y q' x
 let cnt : Nat → Nat := fun q => ((List.range n).filter (fun x : Nat => decB (P q (x : Int)))).length
 have cnt_le : ∀ q, cnt q ≤ n := fun q => by
  have := List.length_filter_le (fun x : Nat => decB (P q (x : Int))) (List.range n)
  rwa [List.length_range] at this
 have tr : ∀ {p : Prop}, decB p = true → p := fun {p} h => by
  by_cases hp : p
  ·exact hp
  ·rw [decB_false hp] at h; cases h
 have fl : ∀ {p : Prop}, decB p = false → ¬ p := fun {p} h hp => by rw [decB_true hp] at h; cases h
 have key : ∀ q, (∀ q' x, AvR prev at_ y q' x → P q x) ∨ q ≤ cnt q := by
  intro q
  induction q with
  | zero => exact .inr (Nat.zero_le _)
  | succ q ih =>
   rcases ih with h | h
   ·exact .inl (fun q' x k => by obtain ⟨a, b, c⟩ := h q' x k; exact ⟨a, by omega, c⟩)
   ·by_cases hs : ∀ x, P (q + 1) x → P q x
    ·left
     intro q' x k
     have : P q x := by
      induction k with
      | zero h => exact ⟨0, Nat.zero_le _, .zero h⟩
      | fwd _ hp hb ha ih => obtain ⟨a, b, c⟩ := ih; exact ⟨a, b, .fwd c hp hb ha⟩
      | ret _ hp hb ha ih => obtain ⟨a, b, c⟩ := ih; exact hs _ ⟨a + 1, by omega, .ret c hp hb ha⟩
     obtain ⟨a, b, c⟩ := this
     exact ⟨a, by omega, c⟩
    ·right
     have hex : ∃ x, P (q + 1) x ∧ ¬ P q x := Classical.byContradiction (fun hn => hs (fun x hx => Classical.byContradiction (fun hp => hn ⟨x, hx, hp⟩)))
     obtain ⟨x, h1, h2⟩ := hex
     obtain ⟨a, b, c⟩ := h1
     obtain ⟨x0, x1⟩ := hlt x (c.reached g)
     have := (filt (fun x : Nat => decB (P q (x : Int))) (fun x : Nat => decB (P (q + 1) (x : Int))) (List.range n) (fun z _ hz => decB_true (by obtain ⟨a, b, c⟩ := tr hz; exact ⟨a, by omega, c⟩))).2
      ⟨x.toNat, List.mem_range.mpr (by omega), by rw [show ((x.toNat : Nat) : Int) = x by omega]; exact decB_true ⟨a, b, c⟩, by rw [show ((x.toNat : Nat) : Int) = x by omega]; exact decB_false h2⟩
     show q + 1 ≤ cnt (q + 1)
     have h3 : cnt q + 1 ≤ cnt (q + 1) := this
     omega
 rintro x ⟨q, hq⟩
 rcases key (n + 1) with h | h
 ·obtain ⟨a, b, c⟩ := h q x hq
  exact ⟨a, c, b⟩
 ·have := cnt_le (n + 1)
  omega
section
variable (a0 : ByteArray) (l1 : List ByteArray) (a2 : ByteArray) (l3 : List ByteArray) (l4 : List S58) (l : List S40)
theorem ord_of (hn : 1 ≤ l.length) {s : List Bool} {e : List Int} (A : Adds l (List.replicate l.length false) s [0] (e ++ [0])) :
  ∃ at_, placesO (0 :: e.reverse) (List.replicate l.length (-1)) = some at_ ∧ Ord l.length (0 :: e.reverse) at_ (aheadRows l) ∧ (∀ x, fnI l.length at_ x ≠ -1 ↔ hasR s x) := by
 obtain ⟨o, ho⟩ : ∃ o, o = 0 :: e.reverse := ⟨_, rfl⟩
 have hrev : o = (e ++ [0]).reverse := by rw [ho]; simp
 have hmem : ∀ x, x ∈ o ↔ x ∈ e ++ [0] := fun x => by rw [hrev, List.mem_reverse]
 have hs : ∀ x, hasR s x ↔ x ∈ o := fun x => by
  rw [A.mem x, hmem x]
  exact ⟨fun h => h.resolve_left (hasR_none _ _), .inr⟩
 have hsl : s.length = l.length := by have := A.len; rwa [List.length_replicate] at this
 have hrange : ∀ x ∈ o, 0 ≤ x ∧ x < (l.length : Int) := fun x hx => by
  obtain ⟨h0, h1, _⟩ := (hs x).mpr hx
  exact ⟨h0, by rw [hsl] at h1; exact h1⟩
 have hnd : o.Nodup := by rw [hrev]; exact List.pairwise_reverse.mpr (A.nodup.imp (fun h e => h e.symm))
 obtain ⟨at_, p1, p2, p3, p4⟩ := places_spec o 0 (List.replicate l.length (-1)) List.length_replicate hnd hrange
 have hin : ∀ x, fnI l.length at_ x ≠ -1 ↔ x ∈ o := fun x => by
  constructor
  ·intro h
   exact Classical.byContradiction (fun hx => h (by rw [p4 x hx]; exact fn_none _ _))
  ·intro h
   obtain ⟨i, hi, rfl⟩ := List.mem_iff_getElem.mp h
   rw [p3 i hi]; omega
 have hat : ∀ (i : Nat) (hi : i < o.length), fnI l.length at_ o[i] = i := fun i hi => by rw [p3 i hi]; omega
 have hprev : ∀ b p, p ∈ prevI l.length (aheadRows l) b ↔ 0 ≤ p ∧ p < (l.length : Int) ∧ b ∈ nextOf l p := fun b p => by
  unfold prevI
  by_cases hb : 0 ≤ b ∧ b < (l.length : Int)
  ·rw [if_pos hb, rows_mem hb.1 hb.2]
  ·rw [if_neg hb]
   exact ⟨(fun h => by cases h), fun h => absurd (next_in h.2.2) hb⟩
 have hlen : o.length ≤ l.length := by
  have h1 := A.count
  rw [unseen_none] at h1
  rw [hrev, List.length_reverse]
  omega
 have hlt : ∀ x, fnI l.length at_ x ≠ -1 → fnI l.length at_ x < o.length := fun x hx => by
  obtain ⟨i, hi, rfl⟩ := List.mem_iff_getElem.mp ((hin x).mp hx)
  rw [hat i hi]; omega
 rw [← ho]
 refine ⟨at_, p1, ⟨p2, by simp [aheadRows], ⟨?_, ?_, ?_, ?_, ?_, ?_⟩, hat, hlt, fun x hx => by have := hlt x hx; omega, fun b p hp => ⟨((hprev b p).mp hp).1, ((hprev b p).mp hp).2.1⟩, by rw [ho]; simp⟩, fun x => (hin x).trans (hs x).symm⟩
 ·unfold fnI
  rw [if_neg (by omega)]
 ·have h0 : 0 < o.length := by rw [ho]; simp
  have := hat 0 h0
  simp only [ho, List.getElem_cons_zero] at this
  simpa using this
 ·intro x y hx hxy
  obtain ⟨i, hi, rfl⟩ := List.mem_iff_getElem.mp ((hin x).mp hx)
  obtain ⟨j, hj, rfl⟩ := List.mem_iff_getElem.mp ((hin y).mp (by rw [← hxy]; exact hx))
  rw [hat i hi, hat j hj] at hxy
  have : i = j := by omega
  subst this
  rfl
 ·intro x hx
  obtain ⟨i, hi, rfl⟩ := List.mem_iff_getElem.mp ((hin x).mp hx)
  rw [hat i hi]; omega
 ·intro b hb hb0
  obtain ⟨e1, e2, he⟩ := List.append_of_mem ((hmem b).mp ((hin b).mp hb))
  rcases A.led e1 b e2 he with h | ⟨p, hp, hpb⟩
  ·exact absurd (List.mem_singleton.mp h) hb0
  ·have hoe : o = e2.reverse ++ b :: e1.reverse := by rw [hrev, he]; simp
   have hpo : p ∈ o := by rw [hoe]; exact List.mem_append_left _ (List.mem_reverse.mpr hp)
   obtain ⟨j, hj, hjp⟩ := List.mem_iff_getElem.mp (List.mem_reverse.mpr hp)
   have hjl : j < e2.length := by rwa [List.length_reverse] at hj
   have hjo : j < o.length := by rw [hoe, List.length_append, List.length_reverse]; omega
   have hbo : e2.length < o.length := by rw [hoe, List.length_append, List.length_reverse, List.length_cons]; omega
   have ep : o[j] = p := by simp only [hoe]; rw [List.getElem_append_left hj]; exact hjp
   have eb : o[e2.length] = b := by simp only [hoe]; rw [List.getElem_append_right (by simp)]; simp
   have ap := hat j hjo
   have ab := hat e2.length hbo
   rw [ep] at ap
   rw [eb] at ab
   have hpr := hrange p hpo
   exact ⟨p, (hprev b p).mpr ⟨hpr.1, hpr.2, hpb⟩, (hin p).mpr hpo, by rw [ap, ab]; omega⟩
 ·intro b p hp hpr
  have h1 := (hmem p).mp ((hin p).mp hpr)
  exact (hin b).mpr ((hs b).mp (A.goes p h1 b ((hprev b p).mp hp).2.2))
theorem inv_start {n : Nat} {o at_ : List Int} {h : List (List Int)} (od : Ord n o at_ h) (hn : 1 ≤ n) : Inv h n at_ 0 0 ((List.replicate n (-1)).set 0 0) := by
 have hf : fnI n ((List.replicate n (-1)).set 0 0) = putI (fnI n (List.replicate n (-1))) 0 0 := by
  have := fn_set (n := n) (nr := List.replicate n (-1)) List.length_replicate (c := 0) (m := 0) (Int.le_refl _) (by omega)
  exact this
 have hz : ∀ x, putI (fnI n (List.replicate n (-1))) 0 0 x ≠ -1 → x = 0 := fun x hx => by
  by_cases e : x = 0
  ·exact e
  ·rw [put_other _ e, fn_none] at hx; exact absurd rfl hx
 refine ⟨by rw [List.length_set, List.length_replicate], ?_, ?_, ?_, ?_⟩ <;> rw [hf]
 ·refine ⟨put_same _ _ _, fun x hx => ?_, fun x hx0 hx => absurd (hz x hx) hx0⟩
  rw [hz x hx, od.gr.zero]; decide
 ·intro x hx0 hx
  exact absurd (hz x hx) hx0
 ·rintro y x hx ⟨q, hq, _⟩ hon
  have e := hz x hx
  subst e
  exact (hon.next (Ne.symm hq.ne)).1 rfl
 ·intro x hx hc
  have h0 := od.gr.pos x hx
  have e : x = 0 := od.gr.inj x 0 hx (by rw [od.gr.zero]; omega)
  rw [e, put_same]
  decide
theorem enough_of {n : Nat} {o at_ : List Int} {h : List (List Int)} (od : Ord n o at_ h) : ∀ r, n + 2 ≤ r → Enough h n at_ r := fun r hr y x k => by
 obtain ⟨q, a, b⟩ := reach_bound od.gr n (fun x hx => fnI_in hx) y x k
 exact ⟨q, a, by omega⟩
/-- What grow makes of a function with blocks. -/
theorem grow_is (hn : 1 ≤ l.length) (hl : l.length ≤ 1000000) : ∃ o at_ nr s, growO a0 l1 a2 l3 l4 l = some (o, at_, aheadRows l, nr.set 0 (-1)) ∧ Ord l.length o at_ (aheadRows l) ∧ Good (aheadRows l) l.length at_ nr ∧
  flow_Reached.f a0 l1 a2 l3 l4 l = some s ∧ s.length = l.length ∧ (∀ x, fnI l.length at_ x ≠ -1 ↔ hasR s x) := by
 obtain ⟨s, e, h1, A, _⟩ := walk_facts l (by unfold LIMF; omega) (by omega)
 obtain ⟨at_, p1, od, hR⟩ := ord_of l hn A
 have hsl : s.length = l.length := by have := A.len; rwa [List.length_replicate] at this
 obtain ⟨nr, q1, q2⟩ := rounds_end od (fuelD l.length) (by unfold fuelD; omega) (enough_of od) (fuelD l.length) 0 _ (inv_start od hn) (by unfold fuelD; omega) (by unfold fuelD; omega)
 have hlen : (e ++ [0]).length < LIMF := by
  have h2 := A.count
  rw [unseen_none] at h2
  unfold LIMF; omega
 refine ⟨_, at_, nr, s, ?_, od, q2, ?_, hsl, hR⟩
 ·unfold growO flow_Order.f
  rw [h1, Option.bind_some, if_pos hlen, Option.bind_some]
  have e2 : (e ++ [0]).reverse = 0 :: e.reverse := by simp
  simp only [e2]
  rw [if_pos ⟨hn, hl, by simp⟩, p1, Option.bind_some, q1, Option.bind_some]
 ·unfold flow_Reached.f
  rw [h1]
  rfl
end
end Go.Proofs.Ytclhjalgflebfaa.Q

/- Is, and the way up by which Front goes. -/

namespace Go.Proofs.Ytclhjalgflebfaa.Q
open Go.RowKit Go.Proofs.YtclhjalgflebfaaW.PrintWords Go.Proofs.YtclhjalgflebfaaW.PrintLast Go.Proofs.YtclhjalgflebfaaW.PrintMore
set_option linter.unusedVariables false
set_option linter.unusedSimpArgs false
section
variable {n : Nat} {o at_ nr : List Int} {h : List (List Int)}
theorem rd_root (hn : nr.length = n) {x : Int} (h0 : 0 ≤ x) (h1 : x < (n : Int)) : rd (nr.set 0 (-1)) x = if x = 0 then -1 else fnI n nr x := by
 have := congrFun (fn_set (n := n) hn (c := 0) (m := -1) (Int.le_refl _) (by omega)) x
 rw [← fnI_rd (n := n) h0 h1]
 rw [show nr.set 0 (-1) = nr.set (0 : Int).toNat (-1) from rfl, this]
 rfl
theorem on_spec (od : Ord n o at_ h) (gd : Good h n at_ nr) {a : Int} (ha : fnI n at_ a ≠ -1) : ∀ (k : Nat) (b : Int), fnI n at_ b ≠ -1 → fnI n at_ b + 2 ≤ k → onO (nr.set 0 (-1)) k a b = some (decB (On (fnI n nr) a b)) := by
 have ha1 : a ≠ -1 := fun e => by have := (fnI_in ha).1; omega
 intro k
 induction k with
 | zero => intro b hb hk; have := od.gr.pos b hb; omega
 | succ k ih =>
  intro b hb hk
  obtain ⟨h0, h1⟩ := fnI_in hb
  have hp := od.gr.pos b hb
  rw [onO, if_neg (by omega)]
  by_cases e : b = a
  ·subst e
   rw [if_pos rfl, decB_true .self]
  ·rw [if_neg e, if_pos ⟨h0, by rw [List.length_set, gd.len]; exact h1⟩, rd_root gd.len h0 h1]
   by_cases hz : b = 0
   ·rw [if_pos hz]
    obtain ⟨k, rfl⟩ : ∃ m, k = m + 1 := ⟨k - 1, by omega⟩
    rw [onO, if_pos rfl, decB_false (fun q => (q.next (Ne.symm e)).1 hz)]
    congr 1
    exact beq_eq_false_iff_ne.mpr (Ne.symm ha1)
   ·rw [if_neg hz]
    have hk2 := gd.known b hb
    have hu := gd.tr.up b hz hk2
    rw [ih (fnI n nr b) (gd.tr.known _ hu.2) (by omega)]
    congr 1
    exact decB_iff ⟨fun q => .up hz q, fun q => (q.next (Ne.symm e)).2⟩
/-- Whether a dominates b. -/
theorem is_spec (od : Ord n o at_ h) (gd : Good h n at_ nr) (K : Nat) (hK : n + 2 ≤ K) {a b : Int} (a0 : 0 ≤ a) (a1 : a < (n : Int)) (b0 : 0 ≤ b) (b1 : b < (n : Int)) :
  isO at_ (nr.set 0 (-1)) K a b = some (decB (fnI n at_ a ≠ -1 ∧ Domi (prevI n h) (fnI n at_) a b)) := by
 have e1 : rd at_ a = fnI n at_ a := (fnI_rd a0 a1).symm
 have e2 : rd at_ b = fnI n at_ b := (fnI_rd b0 b1).symm
 unfold isO
 rw [if_pos ⟨a0, by rw [od.len]; exact a1⟩, e1]
 by_cases ha : fnI n at_ a = -1
 ·rw [if_pos ha, decB_false (fun q => q.1 ha)]
 ·rw [if_neg ha, if_pos ⟨b0, by rw [od.len]; exact b1⟩, e2]
  by_cases hb : fnI n at_ b = -1
  ·rw [if_pos hb, decB_false (fun q => q.2.1 hb)]
  ·rw [if_neg hb, on_spec od gd ha K b hb (by have := od.lt b hb; omega)]
   congr 1
   exact decB_iff ((gd.on a b ha hb).trans ⟨fun q => ⟨ha, q⟩, fun q => q.2⟩)
/-- Why x stands in a's front. -/
def Fr (n : Nat) (h : List (List Int)) (at_ : List Int) (a x : Int) : Prop := fnI n at_ a ≠ -1 ∧ ∃ p ∈ prevI n h x, fnI n at_ p ≠ -1 ∧ Domi (prevI n h) (fnI n at_) a p ∧ (a = x ∨ ¬ Domi (prevI n h) (fnI n at_) a x)
structure Snd (n : Nat) (h : List (List Int)) (at_ : List Int) (c : Nat) (out : List (List Int)) : Prop where
 len : out.length = n
 few : ∀ a, (rowOf out a).length ≤ c
 why : ∀ a, 0 ≤ a → a < (n : Int) → ∀ x ∈ rowOf out a, (0 ≤ x ∧ x < (n : Int)) ∧ Fr n h at_ a x
theorem row_set {out : List (List Int)} {x a : Int} {y : List Int} (h0 : 0 ≤ x) (h1 : x < (out.length : Int)) (a0 : 0 ≤ a) : rowOf (out.set x.toNat y) a = if a = x then y else rowOf out a := by
 unfold rowOf
 by_cases e : a = x
 ·subst e
  rw [if_pos rfl, getD_at _ _ (by rw [List.length_set]; omega), List.getElem_set_self]
 ·rw [if_neg e, List.getD_eq_getElem?_getD, List.getD_eq_getElem?_getD, List.getElem?_set_ne (by omega)]
theorem climb_spec (od : Ord n o at_ h) (gd : Good h n at_ nr) (K : Nat) (hK : n + 2 ≤ K) {b p : Int} (b0 : 0 ≤ b) (b1 : b < (n : Int)) (hp : p ∈ prevI n h b) (c : Nat) (hc : c + 1 < LIMF) :
  ∀ (k : Nat) (x : Int) (out : List (List Int)), (x = -1 ∨ (fnI n at_ x ≠ -1 ∧ On (fnI n nr) x p)) → fnI n at_ x + 3 ≤ k → Snd n h at_ (c + 1) out → (∀ a, 0 ≤ a → fnI n at_ a ≤ fnI n at_ x → (rowOf out a).length ≤ c) →
   ∃ out', climbO at_ (nr.set 0 (-1)) K b p k x out = some out' ∧ Snd n h at_ (c + 1) out' := by
 obtain ⟨p0, p1⟩ := od.rows b p hp
 have e1 : rd at_ p = fnI n at_ p := (fnI_rd p0 p1).symm
 intro k
 induction k with
 | zero =>
  intro x out hx hk _ _
  rcases hx with rfl | ⟨hx, _⟩
  ·have : fnI n at_ (-1) = -1 := od.gr.none
   omega
  ·have := od.gr.pos x hx; omega
 | succ k ih =>
  intro x out hx hk hs hlow
  have hstop : climbS at_ (nr.set 0 (-1)) K b p x = some false → ∃ out', climbO at_ (nr.set 0 (-1)) K b p (k + 1) x out = some out' ∧ Snd n h at_ (c + 1) out' := fun e => by
   refine ⟨out, ?_, hs⟩
   rw [climbO, e]
   rfl
  by_cases hpr : fnI n at_ p = -1
  ·refine hstop ?_
   unfold climbS
   rw [if_pos ⟨p0, by rw [od.len]; exact p1⟩, e1, if_pos hpr]
  ·rcases hx with rfl | ⟨hxr, hon⟩
   ·refine hstop ?_
    unfold climbS
    rw [if_pos ⟨p0, by rw [od.len]; exact p1⟩, e1, if_neg hpr, if_pos rfl]
   ·obtain ⟨x0, x1⟩ := fnI_in hxr
    have hxp := od.gr.pos x hxr
    have hdp : Domi (prevI n h) (fnI n at_) x p := (gd.on x p hxr hpr).mp hon
    have hgo : (x = b ∨ ¬ Domi (prevI n h) (fnI n at_) x b) → climbS at_ (nr.set 0 (-1)) K b p x = some true → ∃ out', climbO at_ (nr.set 0 (-1)) K b p (k + 1) x out = some out' ∧ Snd n h at_ (c + 1) out' := fun hwhy e => by
     have hrl := hlow x x0 (Int.le_refl _)
     have hs2 : Snd n h at_ (c + 1) (out.set x.toNat (rowOf out x ++ [b])) := by
      refine ⟨by rw [List.length_set]; exact hs.len, fun a => ?_, fun a a0 a1 z hz => ?_⟩
      ·by_cases a0 : 0 ≤ a
       ·rw [row_set x0 (by rw [hs.len]; exact x1) a0]
        split
        ·rw [List.length_append, List.length_singleton]; omega
        ·exact hs.few a
       ·have ea : rowOf (out.set x.toNat (rowOf out x ++ [b])) a = rowOf (out.set x.toNat (rowOf out x ++ [b])) 0 := by unfold rowOf; rw [show a.toNat = (0 : Int).toNat by omega]
        rw [ea, row_set x0 (by rw [hs.len]; exact x1) (Int.le_refl _)]
        split
        ·rw [List.length_append, List.length_singleton]; omega
        ·exact hs.few 0
      ·rw [row_set x0 (by rw [hs.len]; exact x1) a0] at hz
       split at hz
       ·rename_i e2
        subst e2
        rcases List.mem_append.mp hz with hz | hz
        ·exact hs.why a a0 a1 z hz
        ·obtain rfl := List.mem_singleton.mp hz
         exact ⟨⟨b0, b1⟩, hxr, p, hp, hpr, hdp, hwhy⟩
       ·exact hs.why a a0 a1 z hz
     have hnx : rd (nr.set 0 (-1)) x = if x = 0 then -1 else fnI n nr x := rd_root gd.len x0 x1
     have hnext : ∃ out', climbO at_ (nr.set 0 (-1)) K b p k (rd (nr.set 0 (-1)) x) (out.set x.toNat (rowOf out x ++ [b])) = some out' ∧ Snd n h at_ (c + 1) out' := by
      by_cases hz : x = 0
      ·rw [hnx, if_pos hz]
       have hm : fnI n at_ (-1) = -1 := od.gr.none
       refine ih (-1) _ (.inl rfl) (by omega) hs2 (fun a a0 hle => ?_)
       rw [row_set x0 (by rw [hs.len]; exact x1) a0]
       split
       ·rename_i e2
        subst e2
        omega
       ·exact hlow a a0 (by omega)
      ·rw [hnx, if_neg hz]
       have hu := gd.tr.up x hz (gd.known x hxr)
       have hur := gd.tr.known _ hu.2
       have hup := od.gr.pos _ hur
       refine ih (fnI n nr x) _ (.inr ⟨hur, ?_⟩) (by omega) hs2 (fun a a0 hle => ?_)
       ·exact (On.up hz .self : On (fnI n nr) (fnI n nr x) x).trans hon
       ·rw [row_set x0 (by rw [hs.len]; exact x1) a0]
        split
        ·rename_i e2
         subst e2
         omega
        ·exact hlow a a0 (by omega)
     obtain ⟨out', q1, q2⟩ := hnext
     refine ⟨out', ?_, q2⟩
     rw [climbO, e, Option.bind_some, if_pos rfl, if_pos ⟨x0, by rw [hs.len]; exact x1, by rw [List.length_set, gd.len]; exact x1, by omega⟩]
     exact q1
    have hcl : climbS at_ (nr.set 0 (-1)) K b p x = if x = b then some true else (isO at_ (nr.set 0 (-1)) K x b).map (fun r => !r) := by
     unfold climbS
     rw [if_pos ⟨p0, by rw [od.len]; exact p1⟩, e1, if_neg hpr, if_neg (by omega)]
    by_cases hxb : x = b
    ·exact hgo (.inl hxb) (by rw [hcl, if_pos hxb])
    ·rw [if_neg hxb, is_spec od gd K hK x0 x1 b0 b1] at hcl
     by_cases hd : fnI n at_ x ≠ -1 ∧ Domi (prevI n h) (fnI n at_) x b
     ·exact hstop (by rw [hcl, decB_true hd]; rfl)
     ·exact hgo (.inr (fun q => hd ⟨hxr, q⟩)) (by rw [hcl, decB_false hd]; rfl)
end
end Go.Proofs.Ytclhjalgflebfaa.Q

/- Front: each row holds those only of whom it is so. -/

namespace Go.Proofs.Ytclhjalgflebfaa.Q
open Go.RowKit Go.Proofs.YtclhjalgflebfaaW.PrintWords Go.Proofs.YtclhjalgflebfaaW.PrintLast Go.Proofs.YtclhjalgflebfaaW.PrintMore
set_option linter.unusedVariables false
set_option linter.unusedSimpArgs false
theorem compact_sub (xs : List Int) : ∀ x ∈ Lib.compact xs, x ∈ xs := by
 intro x hx
 unfold Lib.compact Lib.compactUpTo at hx
 obtain ⟨i, hi, rfl⟩ := List.mem_map.mp hx
 have hlt := List.mem_range.mp (List.mem_filter.mp hi).1
 have e : xs.toArray[i]! = xs[i] := by simp [hlt]
 rw [e]
 exact List.getElem_mem hlt
theorem sortC_sub (xs : List Int) : ∀ x ∈ sortC xs, x ∈ xs := fun x hx => List.mem_mergeSort.mp (compact_sub _ x hx)
section
variable {n : Nat} {o at_ nr : List Int} {h : List (List Int)}
theorem Snd.more {c d : Nat} {out : List (List Int)} (s : Snd n h at_ c out) (hd : c ≤ d) : Snd n h at_ d out := ⟨s.len, fun a => Nat.le_trans (s.few a) hd, s.why⟩
theorem climb_one (od : Ord n o at_ h) (gd : Good h n at_ nr) (K : Nat) (hK : n + 2 ≤ K) {b p : Int} (b0 : 0 ≤ b) (b1 : b < (n : Int)) (hp : p ∈ prevI n h b) (c : Nat) (hc : c + 1 < LIMF) {out : List (List Int)} (hs : Snd n h at_ c out) :
  ∃ out', climbO at_ (nr.set 0 (-1)) K b p K p out = some out' ∧ Snd n h at_ (c + 1) out' := by
 obtain ⟨p0, p1⟩ := od.rows b p hp
 by_cases hpr : fnI n at_ p = -1
 ·obtain ⟨k, rfl⟩ : ∃ k, K = k + 1 := ⟨K - 1, by omega⟩
  refine ⟨out, ?_, hs.more (by omega)⟩
  rw [climbO]
  unfold climbS
  rw [if_pos ⟨p0, by rw [od.len]; exact p1⟩, ← fnI_rd p0 p1, if_pos hpr]
  rfl
 ·exact climb_spec od gd K hK b0 b1 hp c hc K p out (.inr ⟨hpr, .self⟩) (by have := od.lt p hpr; omega) (hs.more (by omega)) (fun a _ _ => hs.few a)
theorem climbs (od : Ord n o at_ h) (gd : Good h n at_ nr) (K : Nat) (hK : n + 2 ≤ K) {b : Int} (b0 : 0 ≤ b) (b1 : b < (n : Int)) : ∀ (ps : List Int) (c : Nat) (out : List (List Int)), (∀ p ∈ ps, p ∈ prevI n h b) → c + ps.length < LIMF → Snd n h at_ c out →
  ∃ out', ps.foldlM (fun out p => climbO at_ (nr.set 0 (-1)) K b p K p out) out = some out' ∧ Snd n h at_ (c + ps.length) out'
 | [], c, out, _, _, hs => ⟨out, rfl, hs⟩
 | p :: ps, c, out, hp, hc, hs => by
  rw [List.length_cons] at hc
  obtain ⟨out1, q1, q2⟩ := climb_one od gd K hK b0 b1 (hp p List.mem_cons_self) c (by omega) hs
  obtain ⟨out2, r1, r2⟩ := climbs od gd K hK b0 b1 ps (c + 1) out1 (fun x hx => hp x (List.mem_cons_of_mem _ hx)) (by omega) q2
  refine ⟨out2, ?_, ?_⟩
  ·rw [List.foldlM_cons, q1]
   exact r1
  ·rw [List.length_cons]
   exact r2.more (by omega)
theorem blocks (od : Ord n o at_ h) (gd : Good h n at_ nr) (K : Nat) (hK : n + 2 ≤ K) (hn : n ≤ 1000000) (hrow : ∀ b : Nat, (rowOf h b).length ≤ 2000000) : ∀ (d i : Nat) (out : List (List Int)), i + d = n → Snd n h at_ (i * 2000000) out →
  ∃ out', ((List.range n).drop i).foldlM (frontB at_ h (nr.set 0 (-1)) K) out = some out' ∧ Snd n h at_ (n * 2000000) out' := by
 intro d
 induction d with
 | zero =>
  intro i out hi hs
  rw [List.drop_eq_nil_of_le (by rw [List.length_range]; omega)]
  exact ⟨out, rfl, hs.more (by omega)⟩
 | succ d ih =>
  intro i out hi hs
  have hd : (List.range n).drop i = i :: (List.range n).drop (i + 1) := by rw [List.drop_eq_getElem_cons (by rw [List.length_range]; omega), List.getElem_range]
  have hr := hrow i
  obtain ⟨out1, q1, q2⟩ := climbs od gd K hK (b := (i : Int)) (by omega) (by omega) (rowOf h i) (i * 2000000) out (fun p hp => by rw [prevI_in (by omega) (by omega)]; exact hp) (by unfold LIMF; omega) hs
  obtain ⟨out2, r1, r2⟩ := ih (i + 1) out1 (by omega) (q2.more (by omega))
  refine ⟨out2, ?_, r2⟩
  rw [hd, List.foldlM_cons]
  unfold frontB at r1 ⊢
  rw [if_pos (by rw [od.hlen]; omega), q1]
  exact r1
end
section
variable (a0 : ByteArray) (l1 : List ByteArray) (a2 : ByteArray) (l3 : List ByteArray) (l4 : List S58) (l : List S40)
/-- All that the laws ask of the tree. -/
structure Dm (l : List S40) (o at_ nr : List Int) (s : List Bool) : Prop where
 od : Ord l.length o at_ (aheadRows l)
 gd : Good (aheadRows l) l.length at_ nr
 sl : s.length = l.length
 re : ∀ x, fnI l.length at_ x ≠ -1 ↔ hasR s x
theorem dm_all (hn : 1 ≤ l.length) (hl : l.length ≤ 30) : ∃ o at_ nr s out, Dm l o at_ nr s ∧ growO a0 l1 a2 l3 l4 l = some (o, at_, aheadRows l, nr.set 0 (-1)) ∧ flow_Reached.f a0 l1 a2 l3 l4 l = some s ∧
  dom_Front.f a0 l1 a2 l3 l4 l = some (out.map sortC) ∧ Snd l.length (aheadRows l) at_ (l.length * 2000000) out ∧ ((List.range l.length).foldlM (frontB at_ (aheadRows l) (nr.set 0 (-1)) (fuelD l.length)) (List.replicate l.length [])) = some out := by
 obtain ⟨o, at_, nr, s, g1, od, gd, r1, r2, r3⟩ := grow_is a0 l1 a2 l3 l4 l hn (by omega)
 have hrow : ∀ b : Nat, (rowOf (aheadRows l) b).length ≤ 2000000 := fun b => by
  by_cases hb : b < l.length
  ·have e : rowOf (aheadRows l) (b : Int) = aheadTo l l.length (b : Int) := by
    unfold rowOf aheadRows
    rw [getD_at _ _ (by simp; omega)]
    simp
   rw [e]
   have := ahead_len l (b : Int) l.length
   omega
  ·rw [rows_none (by omega) (by omega)]
   simp
 obtain ⟨out, f1, f2⟩ := blocks od gd (fuelD l.length) (by unfold fuelD; omega) (by omega) hrow l.length 0 (List.replicate l.length []) (by omega) ⟨List.length_replicate, fun a => by
   unfold rowOf; rw [List.getD_eq_getElem?_getD, List.getElem?_replicate]; split <;> simp, fun a a0 a1 x hx => by
   unfold rowOf at hx; rw [getD_at _ _ (by rw [List.length_replicate]; omega), List.getElem_replicate] at hx; cases hx⟩
 rw [List.drop_zero] at f1
 refine ⟨o, at_, nr, s, out, ⟨od, gd, r2, r3⟩, g1, r1, ?_, f2, f1⟩
 have hh : out.length = l.length ∧ ∀ r ∈ out, r.length < LIMF := ⟨f2.len, fun r hr => by
  obtain ⟨i, hi, rfl⟩ := List.mem_iff_getElem.mp hr
  have := f2.few (i : Int)
  unfold rowOf at this
  rw [Int.toNat_natCast, getD_at _ _ hi] at this
  exact Nat.lt_of_le_of_lt this (by unfold LIMF; omega)⟩
 unfold dom_Front.f
 rw [if_neg (by omega), if_neg (by omega), g1, Option.bind_some]
 simp only
 rw [f1, Option.bind_some, if_pos hh]
theorem is_all {o at_ nr : List Int} {s : List Bool} (D : Dm l o at_ nr s) (hg : growO a0 l1 a2 l3 l4 l = some (o, at_, aheadRows l, nr.set 0 (-1))) (a b : Int) : dom_Is.f a0 l1 a2 l3 l4 l a b = some (decB (fnI l.length at_ a ≠ -1 ∧ Domi (prevI l.length (aheadRows l)) (fnI l.length at_) a b)) := by
 unfold dom_Is.f
 split
 ·rename_i h
  rw [hg, Option.bind_some]
  exact is_spec D.od D.gd _ (by unfold fuelD; omega) h.1 h.2.2.1 h.2.1 h.2.2.2
 ·rename_i h
  rw [decB_false]
  rintro ⟨h1, h2⟩
  have q1 := fnI_in h1
  have q2 := fnI_in h2.1
  exact h ⟨q1.1, q2.1, q1.2, q2.2⟩
end
end Go.Proofs.Ytclhjalgflebfaa.Q

/- Dom, plain law: the anchor, and what is more than is asked. -/

namespace Go.Proofs.Ytclhjalgflebfaa.Q
open Go.RowKit Go.Proofs.YtclhjalgflebfaaW.PrintWords Go.Proofs.YtclhjalgflebfaaW.PrintLast Go.Proofs.YtclhjalgflebfaaW.PrintMore
set_option linter.unusedVariables false
set_option linter.unusedSimpArgs false
theorem awake_true : Ev (fun k => truantlaw10_awake.f k) true := by
 have h : truantlaw10_awake.f 40 = some true := by kernel_rfl
 exact Ev.of (fun k => truantlaw10_awake.mono k) h
end Go.Proofs.Ytclhjalgflebfaa.Q

/- In a front ways meet. -/

namespace Go.Proofs.Ytclhjalgflebfaa.Q
open Go.RowKit Go.Proofs.YtclhjalgflebfaaW.PrintWords Go.Proofs.YtclhjalgflebfaaW.PrintLast Go.Proofs.YtclhjalgflebfaaW.PrintMore
set_option linter.unusedVariables false
set_option linter.unusedSimpArgs false
section
variable {l : List S40} {o at_ nr : List Int} {s : List Bool}
/-- Who leads to x and is reached: one that a dominates, and another one. -/
theorem meets (D : Dm l o at_ nr s) {b x : Int} (x0 : 0 ≤ x) (x1 : x < (l.length : Int)) (h : Fr l.length (aheadRows l) at_ b x) :
  (∃ p ∈ aheadTo l l.length x, fnI l.length at_ b ≠ -1 ∧ Domi (prevI l.length (aheadRows l)) (fnI l.length at_) b p) ∧ (x = 0 ∨ 2 ≤ ((aheadTo l l.length x).filter (fun p => rdOf false s p)).length) := by
 have hrow : prevI l.length (aheadRows l) x = aheadTo l l.length x := by
  rw [prevI_in x0 x1]
  unfold rowOf aheadRows
  rw [getD_at _ _ (by simp; omega)]
  simp only [List.getElem_map, List.getElem_range]
  rw [show ((x.toNat : Nat) : Int) = x by omega]
 obtain ⟨hb, p, hp, hpr, hd, hwhy⟩ := h
 have g := D.od.gr
 rw [hrow] at hp
 refine ⟨⟨p, hp, hb, hd⟩, ?_⟩
 by_cases hx : x = 0
 ·exact .inl hx
 ·right
  rcases Nat.lt_or_ge ((aheadTo l l.length x).filter (fun p => rdOf false s p)).length 2 with hlt | hge
  ·exfalso
   have hin : p ∈ (aheadTo l l.length x).filter (fun p => rdOf false s p) := List.mem_filter.mpr ⟨hp, ((D.re p).mp hpr).2.2⟩
   have hone : ∀ q ∈ aheadTo l l.length x, fnI l.length at_ q ≠ -1 → q = p := fun q hq hqr => by
    have hq2 : q ∈ (aheadTo l l.length x).filter (fun p => rdOf false s p) := List.mem_filter.mpr ⟨hq, ((D.re q).mp hqr).2.2⟩
    obtain ⟨L, hL⟩ : ∃ L, L = (aheadTo l l.length x).filter (fun p => rdOf false s p) := ⟨_, rfl⟩
    rw [← hL] at hin hq2 hlt
    match L, hin, hq2, hlt with
    | [y], h1, h2, _ => rw [List.mem_singleton.mp h1, List.mem_singleton.mp h2]
    | y :: z :: L, _, _, h3 => simp only [List.length_cons] at h3; omega
   have hxr := g.fwd x p (by rw [hrow]; exact hp) hpr
   rcases hwhy with rfl | hn
   ·obtain ⟨q, hq, hqr, hlt2⟩ := g.up b hxr hx
    rw [hrow] at hq
    rw [hone q hq hqr] at hlt2
    have := hd.le g
    omega
   ·apply hn
    refine ⟨hxr, ?_⟩
    rintro ⟨r, hr⟩
    have key : ∃ q r', q ∈ aheadTo l l.length x ∧ AvR (prevI l.length (aheadRows l)) (fnI l.length at_) b r' q := by
     cases hr with
     | zero _ => exact absurd rfl hx
     | @fwd _ q _ h hq _ _ => exact ⟨q, _, by rw [← hrow]; exact hq, h⟩
     | @ret _ q _ h hq _ _ => exact ⟨q, _, by rw [← hrow]; exact hq, h⟩
    obtain ⟨q, r', hq, h⟩ := key
    have e := hone q hq (h.reached g)
    rw [e] at h
    exact hd.2 ⟨r', h⟩
  ·exact hge
end
section
variable (a0 : ByteArray) (l1 : List ByteArray) (a2 : ByteArray) (l3 : List ByteArray) (l4 : List S58) (l : List S40)
theorem meets_l2 (r : List (List Int)) (s : List Bool) (x : List (List Int)) (b k y : Int) (A : List Int) (q : Int → Bool) (y0 : 0 ≤ y) (y1 : y < (x.length : Int)) (hA : rd_L2 x y = A) (hal : A.length ≤ 1000) (hs : ∀ p ∈ A, 0 ≤ p ∧ p < (s.length : Int)) (hI : ∀ p ∈ A, dom_Is.f a0 l1 a2 l3 l4 l b p = some (q p))
  (hm : A.any q = true) (hc : y = 0 ∨ 2 ≤ (A.filter (fun p => rdOf false s p)).length) (hnext : Ev (fun n => truantlaw10_DomMeets.l1 n r s x b (wrap64 (k + 1)) a0 l1 a2 l3 l4 l) true) :
  ∀ (d j : Nat), A.length - j = d → j ≤ A.length → Ev (fun n => truantlaw10_DomMeets.l2 n r s x b k y (((A.take j).filter (fun p => rdOf false s p)).length : Int) ((A.take j).any q) (j : Int) a0 l1 a2 l3 l4 l) true := by
 intro d
 induction d with
 | zero =>
  intro j hd hj
  rw [List.take_of_length_le (by omega), hm]
  refine Ev.step (fun k => rfl) (Ev.pos y0 (Ev.pos y1 (Ev.neg (by rw [hA]; omega) (Ev.pos rfl ?_))))
  by_cases hy : y = 0
  ·exact Ev.pos hy hnext
  ·exact Ev.neg hy (Ev.neg (by have := hc.resolve_left hy; omega) hnext)
 | succ d ih =>
  intro j hd hj
  have hlt : j < A.length := by omega
  obtain ⟨p, hp⟩ : ∃ p, p = A[j] := ⟨_, rfl⟩
  have hpA : p ∈ A := by rw [hp]; exact List.getElem_mem hlt
  have hrd : rd A (j : Int) = p := by unfold rd; rw [Int.toNat_natCast, getD_at _ _ hlt, hp]
  obtain ⟨p0, p1⟩ := hs p hpA
  have htk := List.take_succ_eq_append_getElem hlt
  rw [← hp] at htk
  have hcl : ((A.take j).filter (fun p => rdOf false s p)).length ≤ j := Nat.le_trans (List.length_filter_le _ _) (by rw [List.length_take]; omega)
  have e1 : ((A.take (j + 1)).filter (fun p => rdOf false s p)).length = ((A.take j).filter (fun p => rdOf false s p)).length + (if rdOf false s p = true then 1 else 0) := by
   rw [htk, List.filter_append, List.length_append]
   congr 1
   rw [List.filter_cons]
   split <;> rfl
  have e2 : (A.take (j + 1)).any q = ((A.take j).any q || q p) := by rw [htk, List.any_append]; simp
  have ih2 := ih (j + 1) (by omega) (by omega)
  rw [e1, e2] at ih2
  have c1 : (j : Int) < ((rd_L2 x y).length : Int) := by rw [hA]; omega
  have c2 : 0 ≤ (j : Int) := by omega
  have c3 : ((A.take j).filter (fun p => rdOf false s p)).length < A.length := by omega
  have c4 : A.length ≤ 140737488351232 := by omega
  have wj : wrap64 ((j : Int) + 1) = ((j + 1 : Nat) : Int) := wrap_up (n := A.length) hlt c4
  have wc : wrap64 ((((A.take j).filter (fun p => rdOf false s p)).length : Int) + 1) = ((((A.take j).filter (fun p => rdOf false s p)).length + 1 : Nat) : Int) := wrap_up (n := A.length) c3 c4
  have hi := hI p hpA
  clear e1 e2 htk hcl hs hI hm hc hnext ih
  generalize (A.take j).any q = M at ih2 ⊢
  clear c3
  generalize ((A.take j).filter (fun p => rdOf false s p)).length = C at ih2 wc ⊢
  refine Ev.step (fun k => rfl) ?_
  refine Ev.pos y0 (Ev.pos y1 (Ev.pos c1 (Ev.pos c2 ?_)))
  rw [hA, hrd, wj, wc]
  refine Ev.pos p0 (Ev.pos p1 ?_)
  by_cases hr : rdOf false s p = true
  ·rw [if_pos hr] at ih2
   refine Ev.pos hr ?_
   cases M with
   | true => exact Ev.pos rfl ih2
   | false => exact Ev.neg (by simp) (Ev.one hi ih2)
  ·rw [if_neg hr] at ih2
   refine Ev.neg hr ?_
   cases M with
   | true => exact Ev.pos rfl ih2
   | false => exact Ev.neg (by simp) (Ev.one hi ih2)
theorem meets_l1 (r : List (List Int)) (s : List Bool) (x : List (List Int)) (b : Nat) (hb : b < r.length) (R : List Int) (hR : rd_L2 r (b : Int) = R) (hf : R.length ≤ 100000000)
  (hin : ∀ y ∈ R, 0 ≤ y ∧ y < (x.length : Int) ∧ ∃ (A : List Int) (q : Int → Bool), rd_L2 x y = A ∧ A.length ≤ 1000 ∧ (∀ p ∈ A, 0 ≤ p ∧ p < (s.length : Int)) ∧ (∀ p ∈ A, dom_Is.f a0 l1 a2 l3 l4 l b p = some (q p)) ∧ A.any q = true ∧ (y = 0 ∨ 2 ≤ (A.filter (fun p => rdOf false s p)).length))
  (hnext : Ev (fun n => truantlaw10_DomMeets.l0 n r s x (wrap64 ((b : Int) + 1)) a0 l1 a2 l3 l4 l) true) :
  ∀ (d k : Nat), R.length - k = d → k ≤ R.length → Ev (fun n => truantlaw10_DomMeets.l1 n r s x (b : Int) (k : Int) a0 l1 a2 l3 l4 l) true := by
 intro d
 induction d with
 | zero =>
  intro k hd hk
  exact Ev.step (fun k => rfl) (Ev.pos (by omega) (Ev.neg (by rw [hR]; omega) hnext))
 | succ d ih =>
  intro k hd hk
  have hlt : k < R.length := by omega
  obtain ⟨y, hy⟩ : ∃ y, y = R[k] := ⟨_, rfl⟩
  have hrd : rd R (k : Int) = y := by unfold rd; rw [Int.toNat_natCast, getD_at _ _ hlt, hy]
  obtain ⟨y0, y1, A, q, h1, h2, h3, h4, h5, h6⟩ := hin y (by rw [hy]; exact List.getElem_mem hlt)
  have h7 := ih (k + 1) (by omega) (by omega)
  have wk : wrap64 ((k : Int) + 1) = ((k + 1 : Nat) : Int) := wrap_up (n := R.length) hlt (by omega)
  rw [← wk] at h7
  have h8 := meets_l2 a0 l1 a2 l3 l4 l r s x (b : Int) (k : Int) y A q y0 y1 h1 h2 h3 h4 h5 h6 h7 _ 0 rfl (Nat.zero_le _)
  clear wk h7
  refine Ev.step (fun k => rfl) (Ev.pos (by omega) (Ev.pos (by rw [hR]; omega) (Ev.pos (by omega) ?_)))
  rw [hR, hrd]
  exact h8
theorem meets_l0 (r : List (List Int)) (s : List Bool) (x : List (List Int)) (hl : r.length ≤ 1000)
  (hin : ∀ b : Nat, b < r.length → (rd_L2 r (b : Int)).length ≤ 100000000 ∧ ∀ y ∈ rd_L2 r (b : Int), 0 ≤ y ∧ y < (x.length : Int) ∧ ∃ (A : List Int) (q : Int → Bool), rd_L2 x y = A ∧ A.length ≤ 1000 ∧ (∀ p ∈ A, 0 ≤ p ∧ p < (s.length : Int)) ∧ (∀ p ∈ A, dom_Is.f a0 l1 a2 l3 l4 l b p = some (q p)) ∧ A.any q = true ∧ (y = 0 ∨ 2 ≤ (A.filter (fun p => rdOf false s p)).length)) :
  ∀ (d b : Nat), r.length - b = d → b ≤ r.length → Ev (fun n => truantlaw10_DomMeets.l0 n r s x (b : Int) a0 l1 a2 l3 l4 l) true := by
 intro d
 induction d with
 | zero => intro b hd hb; exact Ev.step (fun k => rfl) (Ev.neg (by omega) (Ev.now _))
 | succ d ih =>
  intro b hd hb
  have h2 := ih (b + 1) (by omega) (by omega)
  rw [← wrap_up (n := r.length) (by omega) (by omega)] at h2
  obtain ⟨h3, h4⟩ := hin b (by omega)
  exact Ev.step (fun k => rfl) (Ev.pos (by omega) (meets_l1 a0 l1 a2 l3 l4 l r s x b (by omega) _ rfl h3 h4 h2 _ 0 rfl (Nat.zero_le _)))
end
theorem DomMeets_pure : DomMeets.Pure := by
 intro a0 l1 a2 l3 l4 l hwf
 have hev : Ev (fun k => truantlaw10_DomMeets.f k a0 l1 a2 l3 l4 l) true := by
  unfold truantlaw10_DomMeets.f
  refine Ev.bind awake_true (Ev.pos rfl ?_)
  refine Ev.one (show truantlaw10_wide.f a0 l1 a2 l3 l4 l = some (decide ((l.length : Int) > 30)) from rfl) ?_
  by_cases hw : (l.length : Int) > 30
  ·exact Ev.pos (decide_eq_true hw) (Ev.now _)
  ·refine Ev.neg (by rw [decide_eq_false hw]; simp) ?_
   have hl : l.length ≤ 30 := by omega
   obtain ⟨x, hx, hx1, hx2⟩ := flowAhead a0 l1 a2 l3 l4 l (by omega)
   by_cases hn : 1 ≤ l.length
   ·obtain ⟨o, at_, nr, s, out, D, hg, hR, hF, hS, _⟩ := dm_all a0 l1 a2 l3 l4 l hn hl
    have hI := is_all a0 l1 a2 l3 l4 l D hg
    refine Ev.one hF (Ev.one hR (Ev.bind hx ?_))
    have hlen : (out.map sortC).length = l.length := by rw [List.length_map, hS.len]
    have hrow : ∀ b : Nat, b < l.length → rd_L2 (out.map sortC) (b : Int) = sortC (rowOf out b) := fun b hb => by
     unfold rd_L2 rowOf
     rw [Int.toNat_natCast, getD_at _ _ (by omega), getD_at _ _ (by rw [hS.len]; exact hb), List.getElem_map]
    refine meets_l0 a0 l1 a2 l3 l4 l (out.map sortC) s x (by omega) (fun b hb => ?_) _ 0 rfl (Nat.zero_le _)
    rw [hlen] at hb
    rw [hrow b hb]
    refine ⟨?_, fun y hy => ?_⟩
    ·have h1 := hS.few (b : Int)
     have h2 : (sortC (rowOf out b)).length ≤ (rowOf out b).length := by
      have h3 := compact_le ((rowOf out b).mergeSort fun x y => decide (x ≤ y))
      rw [List.length_mergeSort] at h3
      exact h3
     omega
    ·obtain ⟨⟨y0, y1⟩, hfr⟩ := hS.why (b : Int) (by omega) (by omega) _ (sortC_sub _ _ hy)
     obtain ⟨m1, m2⟩ := meets D y0 y1 hfr
     have hal := ahead_len l y l.length
     refine ⟨y0, by omega, aheadTo l l.length y, fun p => decB (fnI l.length at_ b ≠ -1 ∧ Domi (prevI l.length (aheadRows l)) (fnI l.length at_) b p), ?_, by omega, fun p hp => ?_, fun p _ => hI b p, ?_, m2⟩
     ·unfold rd_L2
      rw [hx2 y.toNat (by omega), show ((y.toNat : Nat) : Int) = y by omega]
     ·obtain ⟨p0, p1, _⟩ := (aheadTo_mem l.length).mp hp
      exact ⟨p0, by rw [D.sl]; exact p1⟩
     ·obtain ⟨p, h1, h2⟩ := m1
      exact List.any_eq_true.mpr ⟨p, h1, decB_true h2⟩
   ·obtain rfl : l = [] := List.eq_nil_of_length_eq_zero (by omega)
    refine Ev.one (show dom_Front.f a0 l1 a2 l3 l4 [] = some [] from rfl) (Ev.one (show flow_Reached.f a0 l1 a2 l3 l4 [] = some [] from rfl) (Ev.bind hx ?_))
    exact Ev.step (fun k => rfl) (Ev.now _)
 exact hev.rounds
end Go.Proofs.Ytclhjalgflebfaa.Q

