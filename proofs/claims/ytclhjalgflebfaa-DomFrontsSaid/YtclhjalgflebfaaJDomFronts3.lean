/- What the row of DomFronts rests on, part 3: contracts of the functions that it reaches, and the plain law. -/
import Derived.Test.YtclhjalgflebfaaJDomFronts2
namespace Go.Proofs.Ytclhjalgflebfaa.Q
open Go.RowKit Go.Proofs.YtclhjalgflebfaaW.PrintWords Go.Proofs.YtclhjalgflebfaaW.PrintLast Go.Proofs.YtclhjalgflebfaaW.PrintMore
set_option linter.unusedVariables false
set_option linter.unusedSimpArgs false

def WF58 (x : S58) : Prop := ((fun n : Int => (Lit.int .i64 n).wf = true) x.f0) ∧ ((fun s : ByteArray => s.size ≤ 140737488351232) x.f1) ∧ ((fun l : List Int => l.length * 8 ≤ 140737488351232 ∧ ∀ x ∈ l, (fun n : Int => (Lit.int .i64 n).wf = true) x) x.f2) ∧ ((fun n : Int => (Lit.int .i64 n).wf = true) x.f3) ∧ ((fun s : ByteArray => s.size ≤ 140737488351232) x.f4)
theorem opens58 : Opens Try.prog 58 k58 WF58 :=
 opens_struct' (fun p : (Int) × (ByteArray) × (List Int) × (Int) × (ByteArray) => (⟨p.1, p.2.1, p.2.2.1, p.2.2.2.1, p.2.2.2.2⟩ : S58)) (fun x : S58 => (x.f0, x.f1, x.f2, x.f3, x.f4)) Try.underlying58 (opensF_cons (opens_int Try.underlying3) rfl (by kernel_rfl) rfl (opensF_cons (opens_string Try.underlying9) rfl (by kernel_rfl) rfl (opensF_cons (opens_slice (opens_int Try.underlying3) Try.underlying34 (by kernel_rfl) 8 (by kernel_rfl)) rfl (by kernel_rfl) rfl (opensF_cons (opens_int Try.underlying3) rfl (by kernel_rfl) rfl (opensF_last (opens_string Try.underlying9) rfl (by kernel_rfl) rfl))))) (by kernel_rfl) rfl (fun _ => rfl) (fun _ h => h)
def WF38 (x : S38) : Prop := ((fun n : Int => (Lit.int .i64 n).wf = true) x.f0) ∧ ((fun n : Int => (Lit.int .i64 n).wf = true) x.f1)
theorem opens38 : Opens Try.prog 38 k38 WF38 :=
 opens_array2 (fun x y => (⟨x, y⟩ : S38)) (fun x : S38 => (x.f0, x.f1)) (opens_int Try.underlying3) Try.underlying38 rfl (by kernel_rfl) (by kernel_rfl) rfl (fun _ _ => rfl) (fun _ _ hx hy => ⟨hx, hy⟩)
def WF40 (x : S40) : Prop := ((fun l : List Int => l.length * 8 ≤ 140737488351232 ∧ ∀ x ∈ l, (fun n : Int => (Lit.int .i64 n).wf = true) x) x.f0) ∧ ((fun n : Int => (Lit.int .i64 n).wf = true) x.f1) ∧ ((fun n : Int => (Lit.int .i64 n).wf = true) x.f2) ∧ (WF38 x.f3)
theorem opens40 : Opens Try.prog 40 k40 WF40 :=
 opens_struct' (fun p : (List Int) × (Int) × (Int) × (S38) => (⟨p.1, p.2.1, p.2.2.1, p.2.2.2⟩ : S40)) (fun x : S40 => (x.f0, x.f1, x.f2, x.f3)) Try.underlying40 (opensF_cons (opens_slice (opens_int Try.underlying3) Try.underlying34 (by kernel_rfl) 8 (by kernel_rfl)) rfl (by kernel_rfl) rfl (opensF_cons (opens_int Try.underlying3) rfl (by kernel_rfl) rfl (opensF_cons (opens_int Try.underlying3) rfl (by kernel_rfl) rfl (opensF_last opens38 rfl (by kernel_rfl) rfl)))) (by kernel_rfl) rfl (fun _ => rfl) (fun _ h => h)
def WF26 (x : S26) : Prop := ((fun s : ByteArray => s.size ≤ 140737488351232) x.f0) ∧ ((fun l : List ByteArray => l.length * 16 ≤ 140737488351232 ∧ ∀ x ∈ l, (fun s : ByteArray => s.size ≤ 140737488351232) x) x.f1) ∧ ((fun s : ByteArray => s.size ≤ 140737488351232) x.f2) ∧ ((fun l : List ByteArray => l.length * 16 ≤ 140737488351232 ∧ ∀ x ∈ l, (fun s : ByteArray => s.size ≤ 140737488351232) x) x.f3) ∧ ((fun l : List (S58) => l.length * 72 ≤ 140737488351232 ∧ ∀ x ∈ l, WF58 x) x.f4) ∧ ((fun l : List (S40) => l.length * 56 ≤ 140737488351232 ∧ ∀ x ∈ l, WF40 x) x.f5)
theorem opens26 : Opens Try.prog 26 k26 WF26 :=
 opens_struct' (fun p : (ByteArray) × (List ByteArray) × (ByteArray) × (List ByteArray) × (List (S58)) × (List (S40)) => (⟨p.1, p.2.1, p.2.2.1, p.2.2.2.1, p.2.2.2.2.1, p.2.2.2.2.2⟩ : S26)) (fun x : S26 => (x.f0, x.f1, x.f2, x.f3, x.f4, x.f5)) Try.underlying26 (opensF_cons (opens_string Try.underlying9) rfl (by kernel_rfl) rfl (opensF_cons (opens_slice (opens_string Try.underlying9) Try.underlying22 (by kernel_rfl) 16 (by kernel_rfl)) rfl (by kernel_rfl) rfl (opensF_cons (opens_string Try.underlying9) rfl (by kernel_rfl) rfl (opensF_cons (opens_slice (opens_string Try.underlying9) Try.underlying22 (by kernel_rfl) 16 (by kernel_rfl)) rfl (by kernel_rfl) rfl (opensF_cons (opens_slice opens58 Try.underlying23 (by kernel_rfl) 72 (by kernel_rfl)) rfl (by kernel_rfl) rfl (opensF_last (opens_slice opens40 Try.underlying24 (by kernel_rfl) 56 (by kernel_rfl)) rfl (by kernel_rfl) rfl)))))) (by kernel_rfl) rfl (fun _ => rfl) (fun _ h => h)
end Go.Proofs.Ytclhjalgflebfaa.Q

namespace Go.Proofs.Ytclhjalgflebfaa.Q
open Go.RowKit Go.Proofs.YtclhjalgflebfaaW.PrintWords Go.Proofs.YtclhjalgflebfaaW.PrintLast Go.Proofs.YtclhjalgflebfaaW.PrintMore
set_option linter.unusedVariables false
set_option linter.unusedSimpArgs false
noncomputable def DomFronts.Pure : Prop := ∀ (a0_0 : ByteArray) (l0_1 : List ByteArray) (a0_2 : ByteArray) (l0_3 : List ByteArray) (l0_4 : List (S58)) (l0_5 : List (S40)) (l1 : List Int), WF26 ⟨a0_0, l0_1, a0_2, l0_3, l0_4, l0_5⟩ → (fun l : List Int => l.length * 8 ≤ 140737488351232 ∧ ∀ x ∈ l, (fun n : Int => (Lit.int .i64 n).wf = true) x) l1 → ∃ k, truantlaw10_DomFronts.f k a0_0 l0_1 a0_2 l0_3 l0_4 l0_5 l1 = some true
end Go.Proofs.Ytclhjalgflebfaa.Q

/- Who is on each way: the nearest ones, round by round; told of any graph whose blocks stand in an order in which each has one of those that lead to it ahead. -/

namespace Go.Proofs.Ytclhjalgflebfaa.Q
open Go.RowKit Go.Proofs.YtclhjalgflebfaaW.PrintWords Go.Proofs.YtclhjalgflebfaaW.PrintLast Go.Proofs.YtclhjalgflebfaaW.PrintMore
set_option linter.unusedVariables false
set_option linter.unusedSimpArgs false
/-- at: the place of each that is reached; -1: it isn't. -/
structure Gr (prev : Int → List Int) (at_ : Int → Int) : Prop where
 none : at_ (-1) = -1
 zero : at_ 0 = 0
 inj : ∀ x y, at_ x ≠ -1 → at_ x = at_ y → x = y
 pos : ∀ x, at_ x ≠ -1 → 0 ≤ at_ x
 up : ∀ b, at_ b ≠ -1 → b ≠ 0 → ∃ p ∈ prev b, at_ p ≠ -1 ∧ at_ p < at_ b
 fwd : ∀ b p, p ∈ prev b → at_ p ≠ -1 → at_ b ≠ -1
section
variable {prev : Int → List Int} {at_ nr : Int → Int}
/-- It is come to by a way without y that steps back r times. -/
inductive AvR (prev : Int → List Int) (at_ : Int → Int) (y : Int) : Nat → Int → Prop
 | zero (h : (0 : Int) ≠ y) : AvR prev at_ y 0 0
 | fwd {r : Nat} {p b : Int} (h : AvR prev at_ y r p) (hp : p ∈ prev b) (hb : b ≠ y) (ha : at_ p < at_ b) : AvR prev at_ y r b
 | ret {r : Nat} {p b : Int} (h : AvR prev at_ y r p) (hp : p ∈ prev b) (hb : b ≠ y) (ha : at_ b ≤ at_ p) : AvR prev at_ y (r + 1) b
def Av (prev : Int → List Int) (at_ : Int → Int) (y x : Int) : Prop := ∃ r, AvR prev at_ y r x
/-- d stands on each way to x. -/
def Domi (prev : Int → List Int) (at_ : Int → Int) (d x : Int) : Prop := at_ x ≠ -1 ∧ ¬ Av prev at_ d x
theorem Av.step {y p b : Int} (h : Av prev at_ y p) (hp : p ∈ prev b) (hb : b ≠ y) : Av prev at_ y b := by
 obtain ⟨r, h⟩ := h
 by_cases ha : at_ p < at_ b
 ·exact ⟨r, .fwd h hp hb ha⟩
 ·exact ⟨r + 1, .ret h hp hb (by omega)⟩
theorem AvR.ne {y x : Int} {r : Nat} (h : AvR prev at_ y r x) : x ≠ y := by
 cases h with
 | zero h => exact h
 | fwd _ _ hb _ => exact hb
 | ret _ _ hb _ => exact hb
theorem AvR.reached (g : Gr prev at_) {y x : Int} {r : Nat} (h : AvR prev at_ y r x) : at_ x ≠ -1 := by
 induction h with
 | zero _ => rw [g.zero]; decide
 | fwd _ hp _ _ ih => exact g.fwd _ _ hp ih
 | ret _ hp _ _ ih => exact g.fwd _ _ hp ih
theorem Domi.self {x : Int} (hx : at_ x ≠ -1) : Domi prev at_ x x := ⟨hx, fun ⟨_, h⟩ => h.ne rfl⟩
theorem zero_dom {x : Int} (hx : at_ x ≠ -1) : Domi prev at_ 0 x := ⟨hx, fun ⟨_, h⟩ => by
 have key : ∀ {r : Nat} {z : Int}, AvR prev at_ 0 r z → False := by
  intro r z h
  induction h with
  | zero h => exact h rfl
  | fwd _ _ _ _ ih => exact ih
  | ret _ _ _ _ ih => exact ih
 exact key h⟩
/-- Of those that lead to x, too, if it isn't x itself. -/
theorem Domi.prev_ {d x p : Int} (h : Domi prev at_ d x) (hne : d ≠ x) (hp : p ∈ prev x) (hr : at_ p ≠ -1) : Domi prev at_ d p := ⟨hr, fun k => h.2 (k.step hp (Ne.symm hne))⟩
/-- A way by which places rise. -/
theorem rising (g : Gr prev at_) (d : Int) : ∀ (n : Nat) (x : Int), at_ x ≠ -1 → at_ x ≤ n → at_ x < at_ d → Av prev at_ d x := by
 intro n
 induction n with
 | zero =>
  intro x hx hn hd
  have h0 := g.pos x hx
  have : x = 0 := g.inj x 0 hx (by rw [g.zero]; omega)
  subst this
  exact ⟨0, .zero (fun e => by rw [← e] at hd; omega)⟩
 | succ n ih =>
  intro x hx hn hd
  by_cases h0 : x = 0
  ·subst h0
   exact ⟨0, .zero (fun e => by rw [← e] at hd; omega)⟩
  ·obtain ⟨p, hp, hr, ha⟩ := g.up x hx h0
   exact (ih p hr (by omega) (by omega)).step hp (fun e => by rw [e] at hd; omega)
theorem Domi.le (g : Gr prev at_) {d x : Int} (h : Domi prev at_ d x) : at_ d ≤ at_ x := by
 rcases (show at_ x < at_ d ∨ at_ d ≤ at_ x by omega) with hlt | hge
 ·exact absurd (rising g d (at_ x).toNat x h.1 (by have := g.pos x h.1; omega) hlt) h.2
 ·exact hge
theorem dom_zero (g : Gr prev at_) {d : Int} (hd : at_ d ≠ -1) (h : Domi prev at_ d 0) : d = 0 := by
 have h1 := h.le g
 rw [g.zero] at h1
 exact g.inj d 0 hd (by rw [g.zero]; have := g.pos d hd; omega)
/-! the nearest ones: a tree -/
/-- What is known of the nearest ones: each stands ahead. -/
structure Tr (at_ nr : Int → Int) : Prop where
 zero : nr 0 = 0
 known : ∀ x, nr x ≠ -1 → at_ x ≠ -1
 up : ∀ x, x ≠ 0 → nr x ≠ -1 → at_ (nr x) < at_ x ∧ nr (nr x) ≠ -1
inductive On (nr : Int → Int) (a : Int) : Int → Prop
 | self : On nr a a
 | up {x : Int} (h0 : x ≠ 0) (h : On nr a (nr x)) : On nr a x
theorem On.trans {a b x : Int} (h : On nr a b) (k : On nr b x) : On nr a x := by
 induction k with
 | self => exact h
 | up h0 _ ih => exact .up h0 ih
theorem On.le (t : Tr at_ nr) {a x : Int} (h : On nr a x) : nr x ≠ -1 → at_ a ≤ at_ x ∧ nr a ≠ -1 := by
 induction h with
 | self => exact fun h => ⟨Int.le_refl _, h⟩
 | up h0 _ ih =>
  intro hx
  have h1 := t.up _ h0 hx
  have h2 := ih h1.2
  exact ⟨by omega, h2.2⟩
theorem On.next {a x : Int} (h : On nr a x) (hne : a ≠ x) : x ≠ 0 ∧ On nr a (nr x) := by
 cases h with
 | self => exact absurd rfl hne
 | up h0 h => exact ⟨h0, h⟩
/-- Whoever is on each way stands among the nearest ones upwards. -/
def Jn (prev : Int → List Int) (at_ nr : Int → Int) : Prop := ∀ x, x ≠ 0 → nr x ≠ -1 → ∀ d, at_ d ≠ -1 → Domi prev at_ d x → d ≠ x → Domi prev at_ d (nr x)
theorem Jn.on (g : Gr prev at_) (t : Tr at_ nr) (j : Jn prev at_ nr) (d : Int) (hd : at_ d ≠ -1) : ∀ (n : Nat) (x : Int), at_ x ≤ n → nr x ≠ -1 → Domi prev at_ d x → On nr d x := by
 intro n
 induction n with
 | zero =>
  intro x hn hx h
  by_cases hz : x = 0
  ·subst hz
   rw [dom_zero g hd h]; exact .self
  ·have h1 := t.up x hz hx
   have := g.pos (nr x) (t.known _ h1.2)
   omega
 | succ n ih =>
  intro x hn hx h
  by_cases hz : x = 0
  ·subst hz
   rw [dom_zero g hd h]; exact .self
  ·by_cases he : d = x
   ·subst he; exact .self
   ·have h1 := t.up x hz hx
    exact .up hz (ih (nr x) (by omega) h1.2 (j x hz hx d hd h he))
/-- Once the nearest one of c is another. -/
def putI (nr : Int → Int) (c m : Int) : Int → Int := fun x => if x = c then m else nr x
theorem put_same (nr : Int → Int) (c m : Int) : putI nr c m c = m := if_pos rfl
theorem put_other (nr : Int → Int) {c m x : Int} (h : x ≠ c) : putI nr c m x = nr x := if_neg h
/-- Above those that stand ahead of c nothing changes. -/
theorem On.put (t : Tr at_ nr) {c m a x : Int} (h : On nr a x) : nr x ≠ -1 → at_ x < at_ c → On (putI nr c m) a x := by
 induction h with
 | self => exact fun _ _ => .self
 | @up x h0 h ih =>
  intro hx hc
  have h1 := t.up x h0 hx
  refine .up h0 ?_
  rw [put_other nr (fun e => by rw [e] at hc; omega)]
  exact ih h1.2 (by omega)
theorem On.unput (t : Tr at_ nr) {c m a x : Int} (h : On (putI nr c m) a x) : nr x ≠ -1 → at_ x < at_ c → On nr a x := by
 induction h with
 | self => exact fun _ _ => .self
 | @up x h0 h ih =>
  intro hx hc
  have h1 := t.up x h0 hx
  rw [put_other nr (fun e => by rw [e] at hc; omega)] at ih
  exact .up h0 (ih h1.2 (by omega))
theorem On.part {c m a x : Int} (h : On (putI nr c m) a x) : On nr c x → On nr a x ∨ On (putI nr c m) a c := by
 induction h with
 | self => exact fun _ => .inl .self
 | @up x h0 h ih =>
  intro hc
  by_cases e : x = c
  ·subst e
   exact .inr (.up h0 h)
  ·rw [put_other nr e] at ih
   rcases ih (hc.next (Ne.symm e)).2 with k | k
   ·exact .inl (.up h0 k)
   ·exact .inr k
theorem On.whole {c m a x : Int} (h : On (putI nr c m) a x) : ¬ On nr c x → On nr a x := by
 induction h with
 | self => exact fun _ => .self
 | @up x h0 h ih =>
  intro hc
  have e : x ≠ c := fun e => hc (by subst e; exact .self)
  rw [put_other nr e] at ih
  exact .up h0 (ih (fun k => hc (.up h0 k)))
/-- A way to x passes c, or it is a way without c. -/
theorem AvR.passes {y c x : Int} {q : Nat} (h : AvR prev at_ y q x) : (∃ q', q' ≤ q ∧ AvR prev at_ y q' c) ∨ AvR prev at_ c q x := by
 induction h with
 | zero h =>
  by_cases e : (0 : Int) = c
  ·subst e; exact .inl ⟨0, Nat.le_refl _, .zero h⟩
  ·exact .inr (.zero e)
 | @fwd r p b h hp hb ha ih =>
  by_cases e : b = c
  ·subst e; exact .inl ⟨r, Nat.le_refl _, .fwd h hp hb ha⟩
  ·rcases ih with ⟨q', h1, h2⟩ | k
   ·exact .inl ⟨q', h1, h2⟩
   ·exact .inr (.fwd k hp e ha)
 | @ret r p b h hp hb ha ih =>
  by_cases e : b = c
  ·subst e; exact .inl ⟨r + 1, Nat.le_refl _, .ret h hp hb ha⟩
  ·rcases ih with ⟨q', h1, h2⟩ | k
   ·exact .inl ⟨q', by omega, h2⟩
   ·exact .inr (.ret k hp e ha)
/-- Behind r rounds, and the blocks up to place i of the next one, it is told of x that y isn't on each way. -/
def Est (prev : Int → List Int) (at_ : Int → Int) (r : Nat) (i : Int) (y x : Int) : Prop := ∃ q, AvR prev at_ y q x ∧ (q + 1 ≤ r ∨ (q ≤ r ∧ at_ x ≤ i))
def Sn (prev : Int → List Int) (at_ nr : Int → Int) (r : Nat) (i : Int) : Prop := ∀ y x, nr x ≠ -1 → Est prev at_ r i y x → ¬ On nr y x
/-- What is told of a block's nearest one, by those that lead to it. -/
structure Found (prev : Int → List Int) (at_ nr : Int → Int) (c m : Int) : Prop where
 known : nr m ≠ -1
 on : ∀ p ∈ prev c, at_ p ≠ -1 → nr p ≠ -1 → On nr m p
 dom : ∀ d, at_ d ≠ -1 → (∀ p ∈ prev c, at_ p ≠ -1 → Domi prev at_ d p) → Domi prev at_ d m
/-- One block's step keeps all three. -/
theorem step_keeps (g : Gr prev at_) (t : Tr at_ nr) (j : Jn prev at_ nr) {r : Nat} {i : Int} (s : Sn prev at_ nr r i) {c m : Int} (hc0 : c ≠ 0) (hcr : at_ c ≠ -1) (hci : at_ c = i + 1)
  (hk : ∀ x, at_ x ≠ -1 → (at_ x ≤ i ∨ 1 ≤ r) → nr x ≠ -1) (f : Found prev at_ nr c m) :
  Tr at_ (putI nr c m) ∧ Jn prev at_ (putI nr c m) ∧ Sn prev at_ (putI nr c m) r (i + 1) ∧ (∀ x, at_ x ≠ -1 → (at_ x ≤ i + 1 ∨ 1 ≤ r) → putI nr c m x ≠ -1) := by
 have hmr := t.known _ f.known
 have hm1 : m ≠ -1 := fun e => hmr (by rw [e]; exact g.none)
 obtain ⟨p0, hp0, hr0, ha0⟩ := g.up c hcr hc0
 have hm0 := ((f.on p0 hp0 hr0 (hk p0 hr0 (.inl (by omega)))).le t (hk p0 hr0 (.inl (by omega)))).1
 have hmc : at_ m < at_ c := by omega
 have hne : m ≠ c := fun e => by rw [e] at hmc; omega
 have hC : ∀ y, Est prev at_ r (i + 1) y c → ¬ On (putI nr c m) y c := by
  rintro y ⟨q, hq, hcond⟩ hon
  have hyc := hq.ne
  have h1 := (hon.next (Ne.symm hyc)).2
  rw [put_same] at h1
  have h2 := h1.unput t f.known hmc
  cases hq with
  | zero _ => exact hc0 rfl
  | @fwd _ p _ h hp hb ha =>
   have hpr := h.reached g
   have hpk := hk p hpr (.inl (by omega))
   exact s y p hpk ⟨q, h, .inr ⟨by omega, by omega⟩⟩ (h2.trans (f.on p hp hpr hpk))
  | @ret q' p _ h hp hb ha =>
   have hpr := h.reached g
   have hpk := hk p hpr (.inr (by omega))
   exact s y p hpk ⟨q', h, .inl (by omega)⟩ (h2.trans (f.on p hp hpr hpk))
 refine ⟨⟨?_, ?_, ?_⟩, ?_, ?_, ?_⟩
 ·rw [put_other nr (Ne.symm hc0)]; exact t.zero
 ·intro x hx
  by_cases e : x = c
  ·rw [e]; exact hcr
  ·rw [put_other nr e] at hx; exact t.known x hx
 ·intro x hx0 hx
  by_cases e : x = c
  ·subst e
   rw [put_same, put_other nr hne]
   exact ⟨hmc, f.known⟩
  ·rw [put_other nr e] at hx ⊢
   have h1 := t.up x hx0 hx
   refine ⟨h1.1, ?_⟩
   by_cases e2 : nr x = c
   ·rw [e2, put_same]; exact hm1
   ·rw [put_other nr e2]; exact h1.2
 ·intro x hx0 hx d hd hdom hdx
  by_cases e : x = c
  ·subst e
   rw [put_same]
   exact f.dom d hd (fun p hp hr => hdom.prev_ hdx hp hr)
  ·rw [put_other nr e] at hx ⊢
   exact j x hx0 hx d hd hdom hdx
 ·intro y x hx he hon
  by_cases e : x = c
  ·subst e; exact hC y he hon
  ·rw [put_other nr e] at hx
   obtain ⟨q, hq, hcond⟩ := he
   have hax : at_ x ≠ i + 1 := fun e2 => e (g.inj x c (hq.reached g) (by rw [e2, hci]))
   have hcond2 : q + 1 ≤ r ∨ (q ≤ r ∧ at_ x ≤ i) := by omega
   have hs := s y x hx ⟨q, hq, hcond2⟩
   by_cases hcx : On nr c x
   ·rcases hq.passes (c := c) with ⟨q', hle, h'⟩ | k
    ·rcases hon.part hcx with k | k
     ·exact hs k
     ·exact hC y ⟨q', h', by omega⟩ k
    ·exact s c x hx ⟨q, k, hcond2⟩ hcx
   ·exact hs (hon.whole hcx)
 ·intro x hxr hx
  by_cases e : x = c
  ·rw [e, put_same]; exact hm1
  ·rw [put_other nr e]
   have hax : at_ x ≠ i + 1 := fun e2 => e (g.inj x c hxr (by rw [e2, hci]))
   exact hk x hxr (by omega)
/-- Behind enough rounds the nearest ones are those that stand on each way. -/
theorem on_iff (g : Gr prev at_) (t : Tr at_ nr) (j : Jn prev at_ nr) {r : Nat} {i : Int} (s : Sn prev at_ nr r i) (hall : ∀ y x, Av prev at_ y x → Est prev at_ r i y x) {d x : Int} (hd : at_ d ≠ -1) (hx : nr x ≠ -1) : On nr d x ↔ Domi prev at_ d x := by
 constructor
 ·intro h
  refine ⟨t.known x hx, fun k => ?_⟩
  exact s d x hx (hall d x k) h
 ·intro h
  exact j.on g t d hd (at_ x).toNat x (by have := g.pos x h.1; omega) hx h
/-- Two trees that tell the same tell the same nearest ones. -/
theorem nearest_same (g : Gr prev at_) {nr' : Int → Int} (t : Tr at_ nr) (t' : Tr at_ nr') {x : Int} (hx0 : x ≠ 0) (hx : nr x ≠ -1) (hx' : nr' x ≠ -1) (h : ∀ d, at_ d ≠ -1 → (On nr d x ↔ On nr' d x)) : nr x = nr' x := by
 have h1 := t.up x hx0 hx
 have h1' := t'.up x hx0 hx'
 have r1 := t.known _ h1.2
 have r1' := t'.known _ h1'.2
 have a1 : On nr (nr x) x := .up hx0 .self
 have a1' : On nr' (nr' x) x := .up hx0 .self
 have b1 := (((h _ r1).mp a1).next (fun e => by rw [e] at h1; omega)).2.le t' h1'.2
 have b2 := (((h _ r1').mpr a1').next (fun e => by rw [e] at h1'; omega)).2.le t h1.2
 exact g.inj _ _ r1 (by omega)
end
end Go.Proofs.Ytclhjalgflebfaa.Q

/- meet, and what is found of a block by those that lead to it; told of the rows. -/

namespace Go.Proofs.Ytclhjalgflebfaa.Q
open Go.RowKit Go.Proofs.YtclhjalgflebfaaW.PrintWords Go.Proofs.YtclhjalgflebfaaW.PrintLast Go.Proofs.YtclhjalgflebfaaW.PrintMore
set_option linter.unusedVariables false
set_option linter.unusedSimpArgs false
def fnI (n : Nat) (l : List Int) (x : Int) : Int := if 0 ≤ x ∧ x < (n : Int) then rd l x else -1
theorem fnI_in {n : Nat} {l : List Int} {x : Int} (h : fnI n l x ≠ -1) : 0 ≤ x ∧ x < (n : Int) := by
 unfold fnI at h
 split at h
 ·assumption
 ·exact absurd rfl h
theorem fnI_rd {n : Nat} {l : List Int} {x : Int} (h0 : 0 ≤ x) (h1 : x < (n : Int)) : fnI n l x = rd l x := if_pos ⟨h0, h1⟩
section
variable {prev : Int → List Int} {n : Nat} {at_ nr : List Int}
theorem up_spec (g : Gr prev (fnI n at_)) (t : Tr (fnI n at_) (fnI n nr)) (j : Jn prev (fnI n at_) (fnI n nr)) (ha : at_.length = n) (hn : nr.length = n) (lim : Int) (hl : 0 ≤ lim) :
  ∀ (k : Nat) (a : Int), fnI n nr a ≠ -1 → fnI n at_ a < k → ∃ a', upO at_ nr k lim a = some a' ∧ On (fnI n nr) a' a ∧ fnI n nr a' ≠ -1 ∧ fnI n at_ a' ≤ lim ∧ (fnI n at_ a ≤ lim → a' = a) ∧ (∀ d, fnI n at_ d ≠ -1 → Domi prev (fnI n at_) d a → fnI n at_ d ≤ lim → Domi prev (fnI n at_) d a') := by
 intro k
 induction k with
 | zero =>
  intro a hk hlt
  have := g.pos a (t.known a hk)
  omega
 | succ k ih =>
  intro a hk hlt
  obtain ⟨h0, h1⟩ := fnI_in hk
  have e1 : rd at_ a = fnI n at_ a := (fnI_rd h0 h1).symm
  have e2 : rd nr a = fnI n nr a := (fnI_rd h0 h1).symm
  rw [upO, if_pos ⟨h0, by rw [ha]; exact h1⟩, e1]
  by_cases hgt : lim < fnI n at_ a
  ·have hz : a ≠ 0 := fun e => by rw [e, g.zero] at hgt; omega
   have h2 := t.up a hz hk
   rw [if_pos hgt, if_pos (by rw [hn]; exact h1), e2]
   obtain ⟨a', q1, q2, q3, q4, _, q6⟩ := ih (fnI n nr a) h2.2 (by omega)
   refine ⟨a', q1, .up hz q2, q3, q4, fun h => by omega, fun d hd hdom hdl => q6 d hd ?_ hdl⟩
   exact j a hz hk d hd hdom (fun e => by rw [e] at hdl; omega)
  ·rw [if_neg hgt]
   exact ⟨a, rfl, .self, hk, by omega, fun _ => rfl, fun d _ h _ => h⟩
theorem meet_spec (g : Gr prev (fnI n at_)) (t : Tr (fnI n at_) (fnI n nr)) (j : Jn prev (fnI n at_) (fnI n nr)) (ha : at_.length = n) (hn : nr.length = n) :
  ∀ (k : Nat) (a b : Int), fnI n nr a ≠ -1 → fnI n nr b ≠ -1 → fnI n at_ a + fnI n at_ b + 2 ≤ k → ∃ m, meetO at_ nr k a b = some m ∧ On (fnI n nr) m a ∧ On (fnI n nr) m b ∧ fnI n nr m ≠ -1 ∧ (∀ d, fnI n at_ d ≠ -1 → Domi prev (fnI n at_) d a → Domi prev (fnI n at_) d b → Domi prev (fnI n at_) d m) := by
 intro k
 induction k with
 | zero =>
  intro a b hka hkb hk
  have h1 := g.pos a (t.known a hka)
  have h2 := g.pos b (t.known b hkb)
  omega
 | succ k ih =>
  intro a b hka hkb hk
  have h1 := g.pos a (t.known a hka)
  have h2 := g.pos b (t.known b hkb)
  rw [meetO]
  by_cases hab : a = b
  ·rw [if_pos hab]
   subst hab
   exact ⟨a, rfl, .self, .self, hka, fun d _ h _ => h⟩
  ·rw [if_neg hab]
   obtain ⟨hb0, hb1⟩ := fnI_in hkb
   have e1 : rd at_ b = fnI n at_ b := (fnI_rd hb0 hb1).symm
   rw [if_pos ⟨hb0, by rw [ha]; exact hb1⟩, e1]
   obtain ⟨a', p1, p2, p3, p4, p5, p6⟩ := up_spec g t j ha hn (fnI n at_ b) h2 k a hka (by omega)
   obtain ⟨ha0, ha1⟩ := fnI_in p3
   have e2 : rd at_ a' = fnI n at_ a' := (fnI_rd ha0 ha1).symm
   have h3 := g.pos a' (t.known a' p3)
   obtain ⟨b', q1, q2, q3, q4, q5, q6⟩ := up_spec g t j ha hn (fnI n at_ a') h3 k b hkb (by omega)
   have h4 := g.pos b' (t.known b' q3)
   have hle := (p2.le t hka).1
   have hne : fnI n at_ a ≠ fnI n at_ b := fun e => hab (g.inj a b (t.known a hka) e)
   have hlt : fnI n at_ a' + fnI n at_ b' < fnI n at_ a + fnI n at_ b := by omega
   obtain ⟨m, r1, r2, r3, r4, r5⟩ := ih a' b' p3 q3 (by omega)
   refine ⟨m, ?_, r2.trans p2, r3.trans q2, r4, fun d hd da db => ?_⟩
   ·rw [p1, Option.bind_some, if_pos ⟨ha0, by rw [ha]; exact ha1⟩, e2, q1, Option.bind_some]
    exact r1
   ·have da' := p6 d hd da (db.le g)
    exact r5 d hd da' (q6 d hd db (da'.le g))
/-- The fold over those that lead to a block. -/
theorem fold_spec (g : Gr prev (fnI n at_)) (t : Tr (fnI n at_) (fnI n nr)) (j : Jn prev (fnI n at_) (fnI n nr)) (ha : at_.length = n) (hn : nr.length = n) (K : Nat) (hK : ∀ x, fnI n at_ x ≠ -1 → fnI n at_ x < n) (hK2 : 2 * n + 2 ≤ K) :
  ∀ (ps : List Int) (nx : Int), (∀ p ∈ ps, 0 ≤ p ∧ p < (n : Int)) → (nx = -1 ∨ fnI n nr nx ≠ -1) → ∃ m, ps.foldlM (predO at_ nr K) nx = some m ∧ (m = -1 → nx = -1 ∧ ∀ p ∈ ps, fnI n at_ p ≠ -1 → fnI n nr p = -1) ∧
   (m ≠ -1 → fnI n nr m ≠ -1 ∧ (nx ≠ -1 → On (fnI n nr) m nx) ∧ (∀ p ∈ ps, fnI n at_ p ≠ -1 → fnI n nr p ≠ -1 → On (fnI n nr) m p) ∧ (∀ d, fnI n at_ d ≠ -1 → (nx ≠ -1 → Domi prev (fnI n at_) d nx) → (∀ p ∈ ps, fnI n at_ p ≠ -1 → Domi prev (fnI n at_) d p) → Domi prev (fnI n at_) d m)) := by
 intro ps
 induction ps with
 | nil =>
  intro nx _ hnx
  refine ⟨nx, rfl, (fun h => ⟨h, (fun p hp => by cases hp)⟩), fun h => ⟨hnx.resolve_left h, fun _ => .self, (fun p hp => by cases hp), fun d _ h1 _ => h1 h⟩⟩
 | cons p ps ih =>
  intro nx hps hnx
  obtain ⟨hp0, hp1⟩ := hps p List.mem_cons_self
  have hps' : ∀ q ∈ ps, 0 ≤ q ∧ q < (n : Int) := fun q hq => hps q (List.mem_cons_of_mem _ hq)
  have e1 : rd at_ p = fnI n at_ p := (fnI_rd hp0 hp1).symm
  have e2 : rd nr p = fnI n nr p := (fnI_rd hp0 hp1).symm
  have hstep : predO at_ nr K nx p = if fnI n at_ p = -1 then some nx else if fnI n nr p = -1 then some nx else if nx = -1 then some p else meetO at_ nr K nx p := by
   unfold predO
   rw [if_pos ⟨hp0, by rw [ha]; exact hp1⟩, e1, e2]
   by_cases h1 : fnI n at_ p = -1
   ·rw [if_pos h1, if_pos h1]
   ·rw [if_neg h1, if_neg h1, if_pos (by rw [hn]; exact hp1)]
  rw [List.foldlM_cons, hstep]
  by_cases h1 : fnI n at_ p = -1
  ·rw [if_pos h1]
   obtain ⟨m, q1, q2, q3⟩ := ih nx hps' hnx
   refine ⟨m, q1, fun h => ⟨(q2 h).1, fun q hq hr => ?_⟩, fun h => ⟨(q3 h).1, (q3 h).2.1, fun q hq hr hk => ?_, fun d hd h2 h3 => (q3 h).2.2.2 d hd h2 (fun q hq hr => h3 q (List.mem_cons_of_mem _ hq) hr)⟩⟩
   ·rcases List.mem_cons.mp hq with rfl | hq
    ·exact absurd h1 hr
    ·exact (q2 h).2 q hq hr
   ·rcases List.mem_cons.mp hq with rfl | hq
    ·exact absurd h1 hr
    ·exact (q3 h).2.2.1 q hq hr hk
  ·rw [if_neg h1]
   by_cases h2 : fnI n nr p = -1
   ·rw [if_pos h2]
    obtain ⟨m, q1, q2, q3⟩ := ih nx hps' hnx
    refine ⟨m, q1, fun h => ⟨(q2 h).1, fun q hq hr => ?_⟩, fun h => ⟨(q3 h).1, (q3 h).2.1, fun q hq hr hk => ?_, fun d hd h2 h3 => (q3 h).2.2.2 d hd h2 (fun q hq hr => h3 q (List.mem_cons_of_mem _ hq) hr)⟩⟩
    ·rcases List.mem_cons.mp hq with rfl | hq
     ·exact h2
     ·exact (q2 h).2 q hq hr
    ·rcases List.mem_cons.mp hq with rfl | hq
     ·exact absurd h2 hk
     ·exact (q3 h).2.2.1 q hq hr hk
   ·rw [if_neg h2]
    -- the new one, known: on the way up from p, and from nx
    have key : ∀ z, fnI n nr z ≠ -1 → On (fnI n nr) z p → (nx ≠ -1 → On (fnI n nr) z nx) → (∀ d, fnI n at_ d ≠ -1 → (nx ≠ -1 → Domi prev (fnI n at_) d nx) → Domi prev (fnI n at_) d p → Domi prev (fnI n at_) d z) →
      ∃ m, ps.foldlM (predO at_ nr K) z = some m ∧ (m = -1 → nx = -1 ∧ ∀ q ∈ p :: ps, fnI n at_ q ≠ -1 → fnI n nr q = -1) ∧
      (m ≠ -1 → fnI n nr m ≠ -1 ∧ (nx ≠ -1 → On (fnI n nr) m nx) ∧ (∀ q ∈ p :: ps, fnI n at_ q ≠ -1 → fnI n nr q ≠ -1 → On (fnI n nr) m q) ∧ (∀ d, fnI n at_ d ≠ -1 → (nx ≠ -1 → Domi prev (fnI n at_) d nx) → (∀ q ∈ p :: ps, fnI n at_ q ≠ -1 → Domi prev (fnI n at_) d q) → Domi prev (fnI n at_) d m)) := by
     intro z hz hzp hzn hzd
     have hz1 : z ≠ -1 := fun e => by
      have := (fnI_in hz).1
      omega
     obtain ⟨m, q1, q2, q3⟩ := ih z hps' (.inr hz)
     refine ⟨m, q1, fun h => absurd (q2 h).1 hz1, fun h => ⟨(q3 h).1, fun hx => ((q3 h).2.1 hz1).trans (hzn hx), fun q hq hr hk => ?_, fun d hd h3 h4 => ?_⟩⟩
     ·rcases List.mem_cons.mp hq with rfl | hq
      ·exact ((q3 h).2.1 hz1).trans hzp
      ·exact (q3 h).2.2.1 q hq hr hk
     ·exact (q3 h).2.2.2 d hd (fun _ => hzd d hd h3 (h4 p List.mem_cons_self h1)) (fun q hq hr => h4 q (List.mem_cons_of_mem _ hq) hr)
    by_cases h3 : nx = -1
    ·rw [if_pos h3]
     exact key p h2 .self (fun h => absurd h3 h) (fun d _ _ h => h)
    ·rw [if_neg h3]
     have hnk := hnx.resolve_left h3
     have b1 := hK nx (t.known nx hnk)
     have b2 := hK p h1
     obtain ⟨z, r1, r2, r3, r4, r5⟩ := meet_spec g t j ha hn K nx p hnk h2 (by omega)
     rw [r1]
     exact key z r4 r3 (fun _ => r2) (fun d hd h4 h5 => r5 d hd (h4 h3) h5)
end
end Go.Proofs.Ytclhjalgflebfaa.Q

/- Rounds: the nearest ones come to stand still, and are those that stand on each way. -/

namespace Go.Proofs.Ytclhjalgflebfaa.Q
open Go.RowKit Go.Proofs.YtclhjalgflebfaaW.PrintWords Go.Proofs.YtclhjalgflebfaaW.PrintLast Go.Proofs.YtclhjalgflebfaaW.PrintMore
set_option linter.unusedVariables false
set_option linter.unusedSimpArgs false
/-- Those that lead to a block. -/
def prevI (n : Nat) (h : List (List Int)) (b : Int) : List Int := if 0 ≤ b ∧ b < (n : Int) then rowOf h b else []
theorem prevI_in {n : Nat} {h : List (List Int)} {b : Int} (h0 : 0 ≤ b) (h1 : b < (n : Int)) : prevI n h b = rowOf h b := if_pos ⟨h0, h1⟩
structure Ord (n : Nat) (o at_ : List Int) (h : List (List Int)) : Prop where
 len : at_.length = n
 hlen : h.length = n
 gr : Gr (prevI n h) (fnI n at_)
 at_o : ∀ (i : Nat) (hi : i < o.length), fnI n at_ o[i] = i
 all : ∀ x, fnI n at_ x ≠ -1 → fnI n at_ x < o.length
 lt : ∀ x, fnI n at_ x ≠ -1 → fnI n at_ x < n
 rows : ∀ b, ∀ p ∈ prevI n h b, 0 ≤ p ∧ p < (n : Int)
 pos : 1 ≤ o.length
theorem fn_set {n : Nat} {nr : List Int} (hn : nr.length = n) {c m : Int} (h0 : 0 ≤ c) (h1 : c < (n : Int)) : fnI n (nr.set c.toNat m) = putI (fnI n nr) c m := by
 funext x
 unfold fnI putI
 dsimp only
 by_cases e : x = c
 ·subst e
  rw [if_pos ⟨h0, h1⟩, if_pos rfl]
  unfold rd
  rw [getD_at _ _ (by rw [List.length_set]; omega), List.getElem_set_self]
 ·rw [if_neg e]
  by_cases hx : 0 ≤ x ∧ x < (n : Int)
  ·rw [if_pos hx, if_pos hx]
   unfold rd
   rw [getD_at _ _ (by rw [List.length_set]; omega), getD_at _ _ (by omega), List.getElem_set_ne (by omega)]
  ·rw [if_neg hx, if_neg hx]
section
variable {n : Nat} {o at_ : List Int} {h : List (List Int)}
/-- All that is kept, behind r rounds and the blocks up to place i. -/
structure Inv (h : List (List Int)) (n : Nat) (at_ : List Int) (r : Nat) (i : Int) (nr : List Int) : Prop where
 len : nr.length = n
 tr : Tr (fnI n at_) (fnI n nr)
 jn : Jn (prevI n h) (fnI n at_) (fnI n nr)
 sn : Sn (prevI n h) (fnI n at_) (fnI n nr) r i
 known : ∀ x, fnI n at_ x ≠ -1 → (fnI n at_ x ≤ i ∨ 1 ≤ r) → fnI n nr x ≠ -1
/-- Whether r rounds are enough. -/
def Enough (h : List (List Int)) (n : Nat) (at_ : List Int) (r : Nat) : Prop := ∀ y x, Av (prevI n h) (fnI n at_) y x → ∃ q, AvR (prevI n h) (fnI n at_) y q x ∧ q + 1 ≤ r
theorem one_step (od : Ord n o at_ h) (K : Nat) (hK : 2 * n + 2 ≤ K) {r : Nat} {i : Nat} {nr : List Int} (f : Bool) (v : Inv h n at_ r i nr) (hi : i + 1 < o.length) :
  ∃ m, stepR at_ h K (nr, f) o[i + 1] = some (nr.set o[i + 1].toNat m, f || (rd nr o[i + 1] != m)) ∧ Inv h n at_ r ((i + 1 : Nat) : Int) (nr.set o[i + 1].toNat m) ∧ (Enough h n at_ r → rd nr o[i + 1] = m) := by
 obtain ⟨c, hc⟩ : ∃ c, c = o[i + 1] := ⟨_, rfl⟩
 rw [← hc]
 have hca : fnI n at_ c = ((i + 1 : Nat) : Int) := by rw [hc]; exact od.at_o _ hi
 have hcr : fnI n at_ c ≠ -1 := by rw [hca]; omega
 obtain ⟨c0, c1⟩ := fnI_in hcr
 have hc0 : c ≠ 0 := fun e => by rw [e, od.gr.zero] at hca; omega
 obtain ⟨m, q1, q2, q3⟩ := fold_spec od.gr v.tr v.jn od.len v.len K od.lt hK (prevI n h c) (-1) (od.rows c) (.inl rfl)
 have hm : m ≠ -1 := fun e => by
  obtain ⟨p, hp, hr, ha⟩ := od.gr.up c hcr hc0
  exact v.known p hr (.inl (by omega)) ((q2 e).2 p hp hr)
 obtain ⟨k1, _, k2, k3⟩ := q3 hm
 have hf : Found (prevI n h) (fnI n at_) (fnI n nr) c m := ⟨k1, k2, fun d hd hp => k3 d hd (fun e => absurd rfl e) hp⟩
 obtain ⟨t2, j2, s2, w2⟩ := step_keeps od.gr v.tr v.jn v.sn hc0 hcr (by rw [hca]; omega) v.known hf
 rw [← fn_set v.len c0 c1] at t2 j2 s2 w2
 refine ⟨m, ?_, ⟨by rw [List.length_set]; exact v.len, t2, j2, ?_, ?_⟩, fun en => ?_⟩
 ·unfold stepR
  rw [prevI_in c0 c1] at q1
  rw [if_pos ⟨c0, by rw [od.hlen]; exact c1, by show c < ((nr.length : Nat) : Int); rw [v.len]; exact c1⟩, q1]
  rfl
 ·rw [show ((i + 1 : Nat) : Int) = (i : Int) + 1 by omega]; exact s2
 ·rw [show ((i + 1 : Nat) : Int) = (i : Int) + 1 by omega]; exact w2
 ·have hall : ∀ (z : Int) y x, Av (prevI n h) (fnI n at_) y x → Est (prevI n h) (fnI n at_) r z y x := fun z y x k => by
   obtain ⟨q, a, b⟩ := en y x k
   exact ⟨q, a, .inl b⟩
  by_cases hr0 : r = 0
  ·exfalso
   obtain ⟨q, _, b⟩ := en (-1) 0 ⟨0, .zero (by decide)⟩
   omega
  ·have hkc := v.known c hcr (.inr (by omega))
   have hkc2 := w2 c hcr (.inr (by omega))
   have e := nearest_same od.gr v.tr t2 hc0 hkc hkc2 (fun d hd => (on_iff od.gr v.tr v.jn v.sn (hall _) hd hkc).trans (on_iff od.gr t2 j2 s2 (hall _) hd hkc2).symm)
   rw [← fnI_rd c0 c1, e, fn_set v.len c0 c1, put_same]
theorem rest_steps (od : Ord n o at_ h) (K : Nat) (hK : 2 * n + 2 ≤ K) {r : Nat} : ∀ (d i : Nat) (nr : List Int) (f : Bool), i + 1 + d = o.length → Inv h n at_ r i nr →
  ∃ nr' f', (o.drop (i + 1)).foldlM (stepR at_ h K) (nr, f) = some (nr', f') ∧ Inv h n at_ r ((o.length - 1 : Nat) : Int) nr' ∧ (f' = false → f = false ∧ nr' = nr) ∧ (Enough h n at_ r → f' = f) := by
 intro d
 induction d with
 | zero =>
  intro i nr f hd v
  rw [List.drop_eq_nil_of_le (by omega)]
  refine ⟨nr, f, rfl, ?_, fun h => ⟨h, rfl⟩, fun _ => rfl⟩
  rw [show o.length - 1 = i by omega]
  exact v
 | succ d ih =>
  intro i nr f hd v
  have hi : i + 1 < o.length := by omega
  obtain ⟨m, h1, h2, h3⟩ := one_step od K hK f v hi
  obtain ⟨nr', f', k1, k2, k3, k4⟩ := ih (i + 1) (nr.set o[i + 1].toNat m) (f || (rd nr o[i + 1] != m)) (by omega) h2
  refine ⟨nr', f', ?_, k2, fun hf => ?_, fun en => ?_⟩
  ·rw [List.drop_eq_getElem_cons hi, List.foldlM_cons, h1]
   exact k1
  ·obtain ⟨a, b⟩ := k3 hf
   rw [Bool.or_eq_false_iff] at a
   have e : rd nr o[i + 1] = m := by simpa using a.2
   refine ⟨a.1, ?_⟩
   rw [b, ← e]
   unfold rd
   by_cases hlt : o[i + 1].toNat < nr.length
   ·rw [getD_at _ _ hlt, List.set_getElem_self]
   ·rw [List.set_eq_of_length_le (by omega)]
  ·rw [k4 en, h3 en]
   simp
theorem one_round (od : Ord n o at_ h) (K : Nat) (hK : 2 * n + 2 ≤ K) {r : Nat} {nr : List Int} (v : Inv h n at_ r 0 nr) :
  ∃ nr' f', roundO o at_ h K nr = some (nr', f') ∧ Inv h n at_ (r + 1) 0 nr' ∧ (f' = false → nr' = nr) ∧ (Enough h n at_ r → f' = false) := by
 obtain ⟨nr', f', h1, h2, h3, h4⟩ := rest_steps od K hK (r := r) (o.length - 1) 0 nr false (by have := od.pos; omega) v
 refine ⟨nr', f', ?_, ⟨h2.len, h2.tr, h2.jn, ?_, ?_⟩, fun hf => (h3 hf).2, h4⟩
 ·unfold roundO
  rw [if_pos od.pos]
  exact h1
 ·rintro y x hx ⟨q, hq, hc⟩
  have hxr := hq.reached od.gr
  have hlt := od.all x hxr
  by_cases hz : x = 0
  ·subst hz
   have hy := hq.ne
   exact h2.sn y 0 hx ⟨0, .zero hy, .inr ⟨Nat.zero_le _, by rw [od.gr.zero]; omega⟩⟩
  ·have h0 : fnI n at_ x ≠ 0 := fun e => hz (od.gr.inj x 0 hxr (by rw [e, od.gr.zero]))
   have hp := od.gr.pos x hxr
   exact h2.sn y x hx ⟨q, hq, .inr ⟨by omega, by omega⟩⟩
 ·intro x hxr _
  have hlt := od.all x hxr
  exact h2.known x hxr (.inl (by omega))
/-- What the nearest ones tell at the end. -/
structure Good (h : List (List Int)) (n : Nat) (at_ nr : List Int) : Prop where
 len : nr.length = n
 tr : Tr (fnI n at_) (fnI n nr)
 known : ∀ x, fnI n at_ x ≠ -1 → fnI n nr x ≠ -1
 on : ∀ d x, fnI n at_ d ≠ -1 → fnI n at_ x ≠ -1 → (On (fnI n nr) d x ↔ Domi (prevI n h) (fnI n at_) d x)
theorem good_of (od : Ord n o at_ h) {r : Nat} {nr : List Int} (v : Inv h n at_ r 0 nr) (hr : 1 ≤ r) (en : Enough h n at_ r) : Good h n at_ nr :=
 ⟨v.len, v.tr, fun x hx => v.known x hx (.inr hr), fun d x hd hx => on_iff od.gr v.tr v.jn v.sn (fun y z k => by
  obtain ⟨q, a, b⟩ := en y z k
  exact ⟨q, a, .inl b⟩) hd (v.known x hx (.inr hr))⟩
theorem still (od : Ord n o at_ h) (K : Nat) (hK : 2 * n + 2 ≤ K) {nr : List Int} (hs : roundO o at_ h K nr = some (nr, false)) : ∀ (m r : Nat), Inv h n at_ r 0 nr → Inv h n at_ (r + m) 0 nr := by
 intro m
 induction m with
 | zero => exact fun r v => v
 | succ m ih =>
  intro r v
  obtain ⟨nr', f', h1, h2, _, _⟩ := one_round od K hK v
  rw [hs] at h1
  have e := Option.some.inj h1
  simp only [Prod.mk.injEq] at e
  rw [← e.1] at h2
  have := ih (r + 1) h2
  rwa [show r + 1 + m = r + (m + 1) by omega] at this
theorem rounds_end (od : Ord n o at_ h) (K : Nat) (hK : 2 * n + 2 ≤ K) {R : Nat} (en : ∀ r, R ≤ r → Enough h n at_ r) : ∀ (k r : Nat) (nr : List Int), Inv h n at_ r 0 nr → R + 1 ≤ r + k → 1 ≤ k → ∃ nr', roundsO o at_ h K k nr = some nr' ∧ Good h n at_ nr' := by
 intro k
 induction k with
 | zero => intro r nr _ _ hk; omega
 | succ k ih =>
  intro r nr v hk _
  obtain ⟨nr', f', h1, h2, h3, h4⟩ := one_round od K hK v
  rw [roundsO, h1, Option.bind_some]
  cases f' with
  | false =>
   have e := h3 rfl
   subst e
   refine ⟨nr', by simp, ?_⟩
   have v2 := still od K hK h1 (R + 1) r v
   exact good_of od v2 (by omega) (en _ (by omega))
  | true =>
   have hr : r < R := by
    rcases Nat.lt_or_ge r R with hlt | hge
    ·exact hlt
    ·have := h4 (en r hge); cases this
   obtain ⟨nr2, k1, k2⟩ := ih (r + 1) nr' h2 (by omega) (by omega)
   exact ⟨nr2, by simpa using k1, k2⟩
end
end Go.Proofs.Ytclhjalgflebfaa.Q

/- The tree that grow makes: places by the order, and the nearest ones. -/

namespace Go.Proofs.Ytclhjalgflebfaa.Q
open Go.RowKit Go.Proofs.YtclhjalgflebfaaW.PrintWords Go.Proofs.YtclhjalgflebfaaW.PrintLast Go.Proofs.YtclhjalgflebfaaW.PrintMore
set_option linter.unusedVariables false
set_option linter.unusedSimpArgs false
theorem places_spec {n : Nat} : ∀ (xs : List Int) (k : Nat) (a : List Int), a.length = n → xs.Nodup → (∀ x ∈ xs, 0 ≤ x ∧ x < (n : Int)) →
  ∃ a', (xs.zipIdx k).foldlM (fun (a : List Int) (x : Int × Nat) => if 0 ≤ x.1 ∧ x.1 < (a.length : Int) then some (a.set x.1.toNat (x.2 : Int)) else none) a = some a' ∧ a'.length = n ∧
   (∀ (i : Nat) (hi : i < xs.length), fnI n a' xs[i] = ((k + i : Nat) : Int)) ∧ (∀ x, x ∉ xs → fnI n a' x = fnI n a x)
 | [], k, a, ha, _, _ => ⟨a, rfl, ha, fun i hi => absurd hi (Nat.not_lt_zero _), fun _ _ => rfl⟩
 | x :: xs, k, a, ha, hnd, hr => by
  obtain ⟨h0, h1⟩ := hr x List.mem_cons_self
  obtain ⟨hx, hnd'⟩ := List.nodup_cons.mp hnd
  have hl : (a.set x.toNat (k : Int)).length = n := by rw [List.length_set]; exact ha
  obtain ⟨a', p1, p2, p3, p4⟩ := places_spec xs (k + 1) (a.set x.toNat (k : Int)) hl hnd' (fun y hy => hr y (List.mem_cons_of_mem _ hy))
  refine ⟨a', ?_, p2, fun i hi => ?_, fun y hy => ?_⟩
  ·rw [List.zipIdx_cons, List.foldlM_cons]
   simp only
   rw [if_pos ⟨h0, by rw [ha]; exact h1⟩]
   exact p1
  ·cases i with
   | zero =>
    rw [List.getElem_cons_zero, p4 x hx, fn_set ha h0 h1, put_same]
    rfl
   | succ i =>
    rw [List.getElem_cons_succ, p3 i (by simpa using hi)]
    omega
  ·rw [p4 y (fun q => hy (List.mem_cons_of_mem _ q)), fn_set ha h0 h1, put_other _ (fun e => hy (by rw [e]; exact List.mem_cons_self))]
theorem fn_none (n : Nat) (x : Int) : fnI n (List.replicate n (-1)) x = -1 := by
 unfold fnI
 split
 ·unfold rd
  rw [getD_at _ _ (by rw [List.length_replicate]; omega), List.getElem_replicate]
 ·rfl
theorem aheadTo_mem {l : List S40} {b i : Int} : ∀ n, i ∈ aheadTo l n b ↔ 0 ≤ i ∧ i < (n : Int) ∧ b ∈ nextOf l i := by
 intro n
 induction n with
 | zero => simp [aheadTo]; omega
 | succ n ih =>
  unfold aheadTo
  rw [List.mem_append, ih]
  constructor
  ·rintro (⟨h0, h1, h2⟩ | h)
   ·exact ⟨h0, by omega, h2⟩
   ·obtain ⟨y, hy, rfl⟩ := List.mem_map.mp h
    obtain ⟨hy1, hy2⟩ := List.mem_filter.mp hy
    have : y = b := by simpa using hy2
    subst this
    exact ⟨by omega, by omega, hy1⟩
  ·rintro ⟨h0, h1, h2⟩
   by_cases e : i = (n : Int)
   ·subst e
    exact .inr (List.mem_map.mpr ⟨b, List.mem_filter.mpr ⟨h2, by simp⟩, rfl⟩)
   ·exact .inl ⟨h0, by omega, h2⟩
theorem rows_mem {l : List S40} {b p : Int} (h0 : 0 ≤ b) (h1 : b < (l.length : Int)) : p ∈ rowOf (aheadRows l) b ↔ 0 ≤ p ∧ p < (l.length : Int) ∧ b ∈ nextOf l p := by
 unfold rowOf aheadRows
 rw [getD_at _ _ (by simp; omega)]
 simp only [List.getElem_map, List.getElem_range]
 rw [aheadTo_mem, show ((b.toNat : Nat) : Int) = b by omega]
theorem rows_none {l : List S40} {b : Int} (h : ¬ b < (l.length : Int)) (h0 : 0 ≤ b) : rowOf (aheadRows l) b = [] := by
 unfold rowOf
 rw [List.getD_eq_getElem?_getD, List.getElem?_eq_none (by simp [aheadRows]; omega)]
 rfl
theorem reach_bound {prev : Int → List Int} {at_ : Int → Int} (g : Gr prev at_) (n : Nat) (hlt : ∀ x, at_ x ≠ -1 → 0 ≤ x ∧ x < (n : Int)) (y : Int) : ∀ x, Av prev at_ y x → ∃ q, AvR prev at_ y q x ∧ q ≤ n + 1 := by
 have filt : ∀ {α : Type} (p q : α → Bool) (l : List α), (∀ x ∈ l, p x = true → q x = true) → (l.filter p).length ≤ (l.filter q).length ∧ ((∃ x ∈ l, q x = true ∧ p x = false) → (l.filter p).length + 1 ≤ (l.filter q).length) := by
  intro α p q l
  induction l with
  | nil => intro _; exact ⟨Nat.le_refl _, fun ⟨x, hx, _⟩ => by cases hx⟩
  | cons a l ih =>
   intro h
   obtain ⟨i1, i2⟩ := ih (fun x hx => h x (List.mem_cons_of_mem _ hx))
   have ha := h a List.mem_cons_self
   rw [List.filter_cons, List.filter_cons]
   cases hp : p a with
   | true =>
    rw [ha hp]
    simp only [if_true, List.length_cons]
    refine ⟨by omega, ?_⟩
    rintro ⟨x, hx, h1, h2⟩
    rcases List.mem_cons.mp hx with rfl | hx
    ·rw [hp] at h2; cases h2
    ·have := i2 ⟨x, hx, h1, h2⟩; omega
   | false =>
    cases hq : q a with
    | true =>
     simp only [if_true, Bool.false_eq_true, if_false, List.length_cons]
     exact ⟨by omega, fun _ => by omega⟩
    | false =>
     simp only [Bool.false_eq_true, if_false]
     refine ⟨i1, ?_⟩
     rintro ⟨x, hx, h1, h2⟩
     rcases List.mem_cons.mp hx with rfl | hx
     ·rw [hq] at h1; cases h1
     ·exact i2 ⟨x, hx, h1, h2⟩
 let P : Nat → Int → Prop := fun q x => ∃ q', q' ≤ q ∧ AvR prev at_ y q' x
 let cnt : Nat → Nat := fun q => ((List.range n).filter (fun x : Nat => decB (P q (x : Int)))).length
 have cnt_le : ∀ q, cnt q ≤ n := fun q => by
  have := List.length_filter_le (fun x : Nat => decB (P q (x : Int))) (List.range n)
  rwa [List.length_range] at this
 have tr : ∀ {p : Prop}, decB p = true → p := fun {p} h => by
  by_cases hp : p
  ·exact hp
  ·rw [decB_false hp] at h; cases h
 have fl : ∀ {p : Prop}, decB p = false → ¬ p := fun {p} h hp => by rw [decB_true hp] at h; cases h
 have key : ∀ q, (∀ q' x, AvR prev at_ y q' x → P q x) ∨ q ≤ cnt q := by
  intro q
  induction q with
  | zero => exact .inr (Nat.zero_le _)
  | succ q ih =>
   rcases ih with h | h
   ·exact .inl (fun q' x k => by obtain ⟨a, b, c⟩ := h q' x k; exact ⟨a, by omega, c⟩)
   ·by_cases hs : ∀ x, P (q + 1) x → P q x
    ·left
     intro q' x k
     have : P q x := by
      induction k with
      | zero h => exact ⟨0, Nat.zero_le _, .zero h⟩
      | fwd _ hp hb ha ih => obtain ⟨a, b, c⟩ := ih; exact ⟨a, b, .fwd c hp hb ha⟩
      | ret _ hp hb ha ih => obtain ⟨a, b, c⟩ := ih; exact hs _ ⟨a + 1, by omega, .ret c hp hb ha⟩
     obtain ⟨a, b, c⟩ := this
     exact ⟨a, by omega, c⟩
    ·right
     have hex : ∃ x, P (q + 1) x ∧ ¬ P q x := Classical.byContradiction (fun hn => hs (fun x hx => Classical.byContradiction (fun hp => hn ⟨x, hx, hp⟩)))
     obtain ⟨x, h1, h2⟩ := hex
     obtain ⟨a, b, c⟩ := h1
     obtain ⟨x0, x1⟩ := hlt x (c.reached g)
     have := (filt (fun x : Nat => decB (P q (x : Int))) (fun x : Nat => decB (P (q + 1) (x : Int))) (List.range n) (fun z _ hz => decB_true (by obtain ⟨a, b, c⟩ := tr hz; exact ⟨a, by omega, c⟩))).2
      ⟨x.toNat, List.mem_range.mpr (by omega), by rw [show ((x.toNat : Nat) : Int) = x by omega]; exact decB_true ⟨a, b, c⟩, by rw [show ((x.toNat : Nat) : Int) = x by omega]; exact decB_false h2⟩
     show q + 1 ≤ cnt (q + 1)
     have h3 : cnt q + 1 ≤ cnt (q + 1) := this
     omega
 rintro x ⟨q, hq⟩
 rcases key (n + 1) with h | h
 ·obtain ⟨a, b, c⟩ := h q x hq
  exact ⟨a, c, b⟩
 ·have := cnt_le (n + 1)
  omega
section
variable (a0 : ByteArray) (l1 : List ByteArray) (a2 : ByteArray) (l3 : List ByteArray) (l4 : List S58) (l : List S40)
theorem ord_of (hn : 1 ≤ l.length) {s : List Bool} {e : List Int} (A : Adds l (List.replicate l.length false) s [0] (e ++ [0])) :
  ∃ at_, placesO (0 :: e.reverse) (List.replicate l.length (-1)) = some at_ ∧ Ord l.length (0 :: e.reverse) at_ (aheadRows l) ∧ (∀ x, fnI l.length at_ x ≠ -1 ↔ hasR s x) := by
 obtain ⟨o, ho⟩ : ∃ o, o = 0 :: e.reverse := ⟨_, rfl⟩
 have hrev : o = (e ++ [0]).reverse := by rw [ho]; simp
 have hmem : ∀ x, x ∈ o ↔ x ∈ e ++ [0] := fun x => by rw [hrev, List.mem_reverse]
 have hs : ∀ x, hasR s x ↔ x ∈ o := fun x => by
  rw [A.mem x, hmem x]
  exact ⟨fun h => h.resolve_left (hasR_none _ _), .inr⟩
 have hsl : s.length = l.length := by have := A.len; rwa [List.length_replicate] at this
 have hrange : ∀ x ∈ o, 0 ≤ x ∧ x < (l.length : Int) := fun x hx => by
  obtain ⟨h0, h1, _⟩ := (hs x).mpr hx
  exact ⟨h0, by rw [hsl] at h1; exact h1⟩
 have hnd : o.Nodup := by rw [hrev]; exact List.pairwise_reverse.mpr (A.nodup.imp (fun h e => h e.symm))
 obtain ⟨at_, p1, p2, p3, p4⟩ := places_spec o 0 (List.replicate l.length (-1)) List.length_replicate hnd hrange
 have hin : ∀ x, fnI l.length at_ x ≠ -1 ↔ x ∈ o := fun x => by
  constructor
  ·intro h
   exact Classical.byContradiction (fun hx => h (by rw [p4 x hx]; exact fn_none _ _))
  ·intro h
   obtain ⟨i, hi, rfl⟩ := List.mem_iff_getElem.mp h
   rw [p3 i hi]; omega
 have hat : ∀ (i : Nat) (hi : i < o.length), fnI l.length at_ o[i] = i := fun i hi => by rw [p3 i hi]; omega
 have hprev : ∀ b p, p ∈ prevI l.length (aheadRows l) b ↔ 0 ≤ p ∧ p < (l.length : Int) ∧ b ∈ nextOf l p := fun b p => by
  unfold prevI
  by_cases hb : 0 ≤ b ∧ b < (l.length : Int)
  ·rw [if_pos hb, rows_mem hb.1 hb.2]
  ·rw [if_neg hb]
   exact ⟨(fun h => by cases h), fun h => absurd (next_in h.2.2) hb⟩
 have hlen : o.length ≤ l.length := by
  have h1 := A.count
  rw [unseen_none] at h1
  rw [hrev, List.length_reverse]
  omega
 have hlt : ∀ x, fnI l.length at_ x ≠ -1 → fnI l.length at_ x < o.length := fun x hx => by
  obtain ⟨i, hi, rfl⟩ := List.mem_iff_getElem.mp ((hin x).mp hx)
  rw [hat i hi]; omega
 rw [← ho]
 refine ⟨at_, p1, ⟨p2, by simp [aheadRows], ⟨?_, ?_, ?_, ?_, ?_, ?_⟩, hat, hlt, fun x hx => by have := hlt x hx; omega, fun b p hp => ⟨((hprev b p).mp hp).1, ((hprev b p).mp hp).2.1⟩, by rw [ho]; simp⟩, fun x => (hin x).trans (hs x).symm⟩
 ·unfold fnI
  rw [if_neg (by omega)]
 ·have h0 : 0 < o.length := by rw [ho]; simp
  have := hat 0 h0
  simp only [ho, List.getElem_cons_zero] at this
  simpa using this
 ·intro x y hx hxy
  obtain ⟨i, hi, rfl⟩ := List.mem_iff_getElem.mp ((hin x).mp hx)
  obtain ⟨j, hj, rfl⟩ := List.mem_iff_getElem.mp ((hin y).mp (by rw [← hxy]; exact hx))
  rw [hat i hi, hat j hj] at hxy
  have : i = j := by omega
  subst this
  rfl
 ·intro x hx
  obtain ⟨i, hi, rfl⟩ := List.mem_iff_getElem.mp ((hin x).mp hx)
  rw [hat i hi]; omega
 ·intro b hb hb0
  obtain ⟨e1, e2, he⟩ := List.append_of_mem ((hmem b).mp ((hin b).mp hb))
  rcases A.led e1 b e2 he with h | ⟨p, hp, hpb⟩
  ·exact absurd (List.mem_singleton.mp h) hb0
  ·have hoe : o = e2.reverse ++ b :: e1.reverse := by rw [hrev, he]; simp
   have hpo : p ∈ o := by rw [hoe]; exact List.mem_append_left _ (List.mem_reverse.mpr hp)
   obtain ⟨j, hj, hjp⟩ := List.mem_iff_getElem.mp (List.mem_reverse.mpr hp)
   have hjl : j < e2.length := by rwa [List.length_reverse] at hj
   have hjo : j < o.length := by rw [hoe, List.length_append, List.length_reverse]; omega
   have hbo : e2.length < o.length := by rw [hoe, List.length_append, List.length_reverse, List.length_cons]; omega
   have ep : o[j] = p := by simp only [hoe]; rw [List.getElem_append_left hj]; exact hjp
   have eb : o[e2.length] = b := by simp only [hoe]; rw [List.getElem_append_right (by simp)]; simp
   have ap := hat j hjo
   have ab := hat e2.length hbo
   rw [ep] at ap
   rw [eb] at ab
   have hpr := hrange p hpo
   exact ⟨p, (hprev b p).mpr ⟨hpr.1, hpr.2, hpb⟩, (hin p).mpr hpo, by rw [ap, ab]; omega⟩
 ·intro b p hp hpr
  have h1 := (hmem p).mp ((hin p).mp hpr)
  exact (hin b).mpr ((hs b).mp (A.goes p h1 b ((hprev b p).mp hp).2.2))
theorem inv_start {n : Nat} {o at_ : List Int} {h : List (List Int)} (od : Ord n o at_ h) (hn : 1 ≤ n) : Inv h n at_ 0 0 ((List.replicate n (-1)).set 0 0) := by
 have hf : fnI n ((List.replicate n (-1)).set 0 0) = putI (fnI n (List.replicate n (-1))) 0 0 := by
  have := fn_set (n := n) (nr := List.replicate n (-1)) List.length_replicate (c := 0) (m := 0) (Int.le_refl _) (by omega)
  exact this
 have hz : ∀ x, putI (fnI n (List.replicate n (-1))) 0 0 x ≠ -1 → x = 0 := fun x hx => by
  by_cases e : x = 0
  ·exact e
  ·rw [put_other _ e, fn_none] at hx; exact absurd rfl hx
 refine ⟨by rw [List.length_set, List.length_replicate], ?_, ?_, ?_, ?_⟩ <;> rw [hf]
 ·refine ⟨put_same _ _ _, fun x hx => ?_, fun x hx0 hx => absurd (hz x hx) hx0⟩
  rw [hz x hx, od.gr.zero]; decide
 ·intro x hx0 hx
  exact absurd (hz x hx) hx0
 ·rintro y x hx ⟨q, hq, _⟩ hon
  have e := hz x hx
  subst e
  exact (hon.next (Ne.symm hq.ne)).1 rfl
 ·intro x hx hc
  have h0 := od.gr.pos x hx
  have e : x = 0 := od.gr.inj x 0 hx (by rw [od.gr.zero]; omega)
  rw [e, put_same]
  decide
theorem enough_of {n : Nat} {o at_ : List Int} {h : List (List Int)} (od : Ord n o at_ h) : ∀ r, n + 2 ≤ r → Enough h n at_ r := fun r hr y x k => by
 obtain ⟨q, a, b⟩ := reach_bound od.gr n (fun x hx => fnI_in hx) y x k
 exact ⟨q, a, by omega⟩
/-- What grow makes of a function with blocks. -/
theorem grow_is (hn : 1 ≤ l.length) (hl : l.length ≤ 1000000) : ∃ o at_ nr s, growO a0 l1 a2 l3 l4 l = some (o, at_, aheadRows l, nr.set 0 (-1)) ∧ Ord l.length o at_ (aheadRows l) ∧ Good (aheadRows l) l.length at_ nr ∧
  flow_Reached.f a0 l1 a2 l3 l4 l = some s ∧ s.length = l.length ∧ (∀ x, fnI l.length at_ x ≠ -1 ↔ hasR s x) := by
 obtain ⟨s, e, h1, A, _⟩ := walk_facts l (by unfold LIMF; omega) (by omega)
 obtain ⟨at_, p1, od, hR⟩ := ord_of l hn A
 have hsl : s.length = l.length := by have := A.len; rwa [List.length_replicate] at this
 obtain ⟨nr, q1, q2⟩ := rounds_end od (fuelD l.length) (by unfold fuelD; omega) (enough_of od) (fuelD l.length) 0 _ (inv_start od hn) (by unfold fuelD; omega) (by unfold fuelD; omega)
 have hlen : (e ++ [0]).length < LIMF := by
  have h2 := A.count
  rw [unseen_none] at h2
  unfold LIMF; omega
 refine ⟨_, at_, nr, s, ?_, od, q2, ?_, hsl, hR⟩
 ·unfold growO flow_Order.f
  rw [h1, Option.bind_some, if_pos hlen, Option.bind_some]
  have e2 : (e ++ [0]).reverse = 0 :: e.reverse := by simp
  simp only [e2]
  rw [if_pos ⟨hn, hl, by simp⟩, p1, Option.bind_some, q1, Option.bind_some]
 ·unfold flow_Reached.f
  rw [h1]
  rfl
end
end Go.Proofs.Ytclhjalgflebfaa.Q

/- Is, and the way up by which Front goes. -/

namespace Go.Proofs.Ytclhjalgflebfaa.Q
open Go.RowKit Go.Proofs.YtclhjalgflebfaaW.PrintWords Go.Proofs.YtclhjalgflebfaaW.PrintLast Go.Proofs.YtclhjalgflebfaaW.PrintMore
set_option linter.unusedVariables false
set_option linter.unusedSimpArgs false
section
variable {n : Nat} {o at_ nr : List Int} {h : List (List Int)}
theorem rd_root (hn : nr.length = n) {x : Int} (h0 : 0 ≤ x) (h1 : x < (n : Int)) : rd (nr.set 0 (-1)) x = if x = 0 then -1 else fnI n nr x := by
 have := congrFun (fn_set (n := n) hn (c := 0) (m := -1) (Int.le_refl _) (by omega)) x
 rw [← fnI_rd (n := n) h0 h1]
 rw [show nr.set 0 (-1) = nr.set (0 : Int).toNat (-1) from rfl, this]
 rfl
theorem on_spec (od : Ord n o at_ h) (gd : Good h n at_ nr) {a : Int} (ha : fnI n at_ a ≠ -1) : ∀ (k : Nat) (b : Int), fnI n at_ b ≠ -1 → fnI n at_ b + 2 ≤ k → onO (nr.set 0 (-1)) k a b = some (decB (On (fnI n nr) a b)) := by
 have ha1 : a ≠ -1 := fun e => by have := (fnI_in ha).1; omega
 intro k
 induction k with
 | zero => intro b hb hk; have := od.gr.pos b hb; omega
 | succ k ih =>
  intro b hb hk
  obtain ⟨h0, h1⟩ := fnI_in hb
  have hp := od.gr.pos b hb
  rw [onO, if_neg (by omega)]
  by_cases e : b = a
  ·subst e
   rw [if_pos rfl, decB_true .self]
  ·rw [if_neg e, if_pos ⟨h0, by rw [List.length_set, gd.len]; exact h1⟩, rd_root gd.len h0 h1]
   by_cases hz : b = 0
   ·rw [if_pos hz]
    obtain ⟨k, rfl⟩ : ∃ m, k = m + 1 := ⟨k - 1, by omega⟩
    rw [onO, if_pos rfl, decB_false (fun q => (q.next (Ne.symm e)).1 hz)]
    congr 1
    exact beq_eq_false_iff_ne.mpr (Ne.symm ha1)
   ·rw [if_neg hz]
    have hk2 := gd.known b hb
    have hu := gd.tr.up b hz hk2
    rw [ih (fnI n nr b) (gd.tr.known _ hu.2) (by omega)]
    congr 1
    exact decB_iff ⟨fun q => .up hz q, fun q => (q.next (Ne.symm e)).2⟩
/-- Whether a dominates b. -/
theorem is_spec (od : Ord n o at_ h) (gd : Good h n at_ nr) (K : Nat) (hK : n + 2 ≤ K) {a b : Int} (a0 : 0 ≤ a) (a1 : a < (n : Int)) (b0 : 0 ≤ b) (b1 : b < (n : Int)) :
  isO at_ (nr.set 0 (-1)) K a b = some (decB (fnI n at_ a ≠ -1 ∧ Domi (prevI n h) (fnI n at_) a b)) := by
 have e1 : rd at_ a = fnI n at_ a := (fnI_rd a0 a1).symm
 have e2 : rd at_ b = fnI n at_ b := (fnI_rd b0 b1).symm
 unfold isO
 rw [if_pos ⟨a0, by rw [od.len]; exact a1⟩, e1]
 by_cases ha : fnI n at_ a = -1
 ·rw [if_pos ha, decB_false (fun q => q.1 ha)]
 ·rw [if_neg ha, if_pos ⟨b0, by rw [od.len]; exact b1⟩, e2]
  by_cases hb : fnI n at_ b = -1
  ·rw [if_pos hb, decB_false (fun q => q.2.1 hb)]
  ·rw [if_neg hb, on_spec od gd ha K b hb (by have := od.lt b hb; omega)]
   congr 1
   exact decB_iff ((gd.on a b ha hb).trans ⟨fun q => ⟨ha, q⟩, fun q => q.2⟩)
/-- Why x stands in a's front. -/
def Fr (n : Nat) (h : List (List Int)) (at_ : List Int) (a x : Int) : Prop := fnI n at_ a ≠ -1 ∧ ∃ p ∈ prevI n h x, fnI n at_ p ≠ -1 ∧ Domi (prevI n h) (fnI n at_) a p ∧ (a = x ∨ ¬ Domi (prevI n h) (fnI n at_) a x)
structure Snd (n : Nat) (h : List (List Int)) (at_ : List Int) (c : Nat) (out : List (List Int)) : Prop where
 len : out.length = n
 few : ∀ a, (rowOf out a).length ≤ c
 why : ∀ a, 0 ≤ a → a < (n : Int) → ∀ x ∈ rowOf out a, (0 ≤ x ∧ x < (n : Int)) ∧ Fr n h at_ a x
theorem row_set {out : List (List Int)} {x a : Int} {y : List Int} (h0 : 0 ≤ x) (h1 : x < (out.length : Int)) (a0 : 0 ≤ a) : rowOf (out.set x.toNat y) a = if a = x then y else rowOf out a := by
 unfold rowOf
 by_cases e : a = x
 ·subst e
  rw [if_pos rfl, getD_at _ _ (by rw [List.length_set]; omega), List.getElem_set_self]
 ·rw [if_neg e, List.getD_eq_getElem?_getD, List.getD_eq_getElem?_getD, List.getElem?_set_ne (by omega)]
theorem climb_spec (od : Ord n o at_ h) (gd : Good h n at_ nr) (K : Nat) (hK : n + 2 ≤ K) {b p : Int} (b0 : 0 ≤ b) (b1 : b < (n : Int)) (hp : p ∈ prevI n h b) (c : Nat) (hc : c + 1 < LIMF) :
  ∀ (k : Nat) (x : Int) (out : List (List Int)), (x = -1 ∨ (fnI n at_ x ≠ -1 ∧ On (fnI n nr) x p)) → fnI n at_ x + 3 ≤ k → Snd n h at_ (c + 1) out → (∀ a, 0 ≤ a → fnI n at_ a ≤ fnI n at_ x → (rowOf out a).length ≤ c) →
   ∃ out', climbO at_ (nr.set 0 (-1)) K b p k x out = some out' ∧ Snd n h at_ (c + 1) out' := by
 obtain ⟨p0, p1⟩ := od.rows b p hp
 have e1 : rd at_ p = fnI n at_ p := (fnI_rd p0 p1).symm
 intro k
 induction k with
 | zero =>
  intro x out hx hk _ _
  rcases hx with rfl | ⟨hx, _⟩
  ·have : fnI n at_ (-1) = -1 := od.gr.none
   omega
  ·have := od.gr.pos x hx; omega
 | succ k ih =>
  intro x out hx hk hs hlow
  have hstop : climbS at_ (nr.set 0 (-1)) K b p x = some false → ∃ out', climbO at_ (nr.set 0 (-1)) K b p (k + 1) x out = some out' ∧ Snd n h at_ (c + 1) out' := fun e => by
   refine ⟨out, ?_, hs⟩
   rw [climbO, e]
   rfl
  by_cases hpr : fnI n at_ p = -1
  ·refine hstop ?_
   unfold climbS
   rw [if_pos ⟨p0, by rw [od.len]; exact p1⟩, e1, if_pos hpr]
  ·rcases hx with rfl | ⟨hxr, hon⟩
   ·refine hstop ?_
    unfold climbS
    rw [if_pos ⟨p0, by rw [od.len]; exact p1⟩, e1, if_neg hpr, if_pos rfl]
   ·obtain ⟨x0, x1⟩ := fnI_in hxr
    have hxp := od.gr.pos x hxr
    have hdp : Domi (prevI n h) (fnI n at_) x p := (gd.on x p hxr hpr).mp hon
    have hgo : (x = b ∨ ¬ Domi (prevI n h) (fnI n at_) x b) → climbS at_ (nr.set 0 (-1)) K b p x = some true → ∃ out', climbO at_ (nr.set 0 (-1)) K b p (k + 1) x out = some out' ∧ Snd n h at_ (c + 1) out' := fun hwhy e => by
     have hrl := hlow x x0 (Int.le_refl _)
     have hs2 : Snd n h at_ (c + 1) (out.set x.toNat (rowOf out x ++ [b])) := by
      refine ⟨by rw [List.length_set]; exact hs.len, fun a => ?_, fun a a0 a1 z hz => ?_⟩
      ·by_cases a0 : 0 ≤ a
       ·rw [row_set x0 (by rw [hs.len]; exact x1) a0]
        split
        ·rw [List.length_append, List.length_singleton]; omega
        ·exact hs.few a
       ·have ea : rowOf (out.set x.toNat (rowOf out x ++ [b])) a = rowOf (out.set x.toNat (rowOf out x ++ [b])) 0 := by unfold rowOf; rw [show a.toNat = (0 : Int).toNat by omega]
        rw [ea, row_set x0 (by rw [hs.len]; exact x1) (Int.le_refl _)]
        split
        ·rw [List.length_append, List.length_singleton]; omega
        ·exact hs.few 0
      ·rw [row_set x0 (by rw [hs.len]; exact x1) a0] at hz
       split at hz
       ·rename_i e2
        subst e2
        rcases List.mem_append.mp hz with hz | hz
        ·exact hs.why a a0 a1 z hz
        ·obtain rfl := List.mem_singleton.mp hz
         exact ⟨⟨b0, b1⟩, hxr, p, hp, hpr, hdp, hwhy⟩
       ·exact hs.why a a0 a1 z hz
     have hnx : rd (nr.set 0 (-1)) x = if x = 0 then -1 else fnI n nr x := rd_root gd.len x0 x1
     have hnext : ∃ out', climbO at_ (nr.set 0 (-1)) K b p k (rd (nr.set 0 (-1)) x) (out.set x.toNat (rowOf out x ++ [b])) = some out' ∧ Snd n h at_ (c + 1) out' := by
      by_cases hz : x = 0
      ·rw [hnx, if_pos hz]
       have hm : fnI n at_ (-1) = -1 := od.gr.none
       refine ih (-1) _ (.inl rfl) (by omega) hs2 (fun a a0 hle => ?_)
       rw [row_set x0 (by rw [hs.len]; exact x1) a0]
       split
       ·rename_i e2
        subst e2
        omega
       ·exact hlow a a0 (by omega)
      ·rw [hnx, if_neg hz]
       have hu := gd.tr.up x hz (gd.known x hxr)
       have hur := gd.tr.known _ hu.2
       have hup := od.gr.pos _ hur
       refine ih (fnI n nr x) _ (.inr ⟨hur, ?_⟩) (by omega) hs2 (fun a a0 hle => ?_)
       ·exact (On.up hz .self : On (fnI n nr) (fnI n nr x) x).trans hon
       ·rw [row_set x0 (by rw [hs.len]; exact x1) a0]
        split
        ·rename_i e2
         subst e2
         omega
        ·exact hlow a a0 (by omega)
     obtain ⟨out', q1, q2⟩ := hnext
     refine ⟨out', ?_, q2⟩
     rw [climbO, e, Option.bind_some, if_pos rfl, if_pos ⟨x0, by rw [hs.len]; exact x1, by rw [List.length_set, gd.len]; exact x1, by omega⟩]
     exact q1
    have hcl : climbS at_ (nr.set 0 (-1)) K b p x = if x = b then some true else (isO at_ (nr.set 0 (-1)) K x b).map (fun r => !r) := by
     unfold climbS
     rw [if_pos ⟨p0, by rw [od.len]; exact p1⟩, e1, if_neg hpr, if_neg (by omega)]
    by_cases hxb : x = b
    ·exact hgo (.inl hxb) (by rw [hcl, if_pos hxb])
    ·rw [if_neg hxb, is_spec od gd K hK x0 x1 b0 b1] at hcl
     by_cases hd : fnI n at_ x ≠ -1 ∧ Domi (prevI n h) (fnI n at_) x b
     ·exact hstop (by rw [hcl, decB_true hd]; rfl)
     ·exact hgo (.inr (fun q => hd ⟨hxr, q⟩)) (by rw [hcl, decB_false hd]; rfl)
end
end Go.Proofs.Ytclhjalgflebfaa.Q

/- Front: each row holds those only of whom it is so. -/

namespace Go.Proofs.Ytclhjalgflebfaa.Q
open Go.RowKit Go.Proofs.YtclhjalgflebfaaW.PrintWords Go.Proofs.YtclhjalgflebfaaW.PrintLast Go.Proofs.YtclhjalgflebfaaW.PrintMore
set_option linter.unusedVariables false
set_option linter.unusedSimpArgs false
section
variable {n : Nat} {o at_ nr : List Int} {h : List (List Int)}
theorem Snd.more {c d : Nat} {out : List (List Int)} (s : Snd n h at_ c out) (hd : c ≤ d) : Snd n h at_ d out := ⟨s.len, fun a => Nat.le_trans (s.few a) hd, s.why⟩
theorem climb_one (od : Ord n o at_ h) (gd : Good h n at_ nr) (K : Nat) (hK : n + 2 ≤ K) {b p : Int} (b0 : 0 ≤ b) (b1 : b < (n : Int)) (hp : p ∈ prevI n h b) (c : Nat) (hc : c + 1 < LIMF) {out : List (List Int)} (hs : Snd n h at_ c out) :
  ∃ out', climbO at_ (nr.set 0 (-1)) K b p K p out = some out' ∧ Snd n h at_ (c + 1) out' := by
 obtain ⟨p0, p1⟩ := od.rows b p hp
 by_cases hpr : fnI n at_ p = -1
 ·obtain ⟨k, rfl⟩ : ∃ k, K = k + 1 := ⟨K - 1, by omega⟩
  refine ⟨out, ?_, hs.more (by omega)⟩
  rw [climbO]
  unfold climbS
  rw [if_pos ⟨p0, by rw [od.len]; exact p1⟩, ← fnI_rd p0 p1, if_pos hpr]
  rfl
 ·exact climb_spec od gd K hK b0 b1 hp c hc K p out (.inr ⟨hpr, .self⟩) (by have := od.lt p hpr; omega) (hs.more (by omega)) (fun a _ _ => hs.few a)
theorem climbs (od : Ord n o at_ h) (gd : Good h n at_ nr) (K : Nat) (hK : n + 2 ≤ K) {b : Int} (b0 : 0 ≤ b) (b1 : b < (n : Int)) : ∀ (ps : List Int) (c : Nat) (out : List (List Int)), (∀ p ∈ ps, p ∈ prevI n h b) → c + ps.length < LIMF → Snd n h at_ c out →
  ∃ out', ps.foldlM (fun out p => climbO at_ (nr.set 0 (-1)) K b p K p out) out = some out' ∧ Snd n h at_ (c + ps.length) out'
 | [], c, out, _, _, hs => ⟨out, rfl, hs⟩
 | p :: ps, c, out, hp, hc, hs => by
  rw [List.length_cons] at hc
  obtain ⟨out1, q1, q2⟩ := climb_one od gd K hK b0 b1 (hp p List.mem_cons_self) c (by omega) hs
  obtain ⟨out2, r1, r2⟩ := climbs od gd K hK b0 b1 ps (c + 1) out1 (fun x hx => hp x (List.mem_cons_of_mem _ hx)) (by omega) q2
  refine ⟨out2, ?_, ?_⟩
  ·rw [List.foldlM_cons, q1]
   exact r1
  ·rw [List.length_cons]
   exact r2.more (by omega)
theorem blocks (od : Ord n o at_ h) (gd : Good h n at_ nr) (K : Nat) (hK : n + 2 ≤ K) (hn : n ≤ 1000000) (hrow : ∀ b : Nat, (rowOf h b).length ≤ 2000000) : ∀ (d i : Nat) (out : List (List Int)), i + d = n → Snd n h at_ (i * 2000000) out →
  ∃ out', ((List.range n).drop i).foldlM (frontB at_ h (nr.set 0 (-1)) K) out = some out' ∧ Snd n h at_ (n * 2000000) out' := by
 intro d
 induction d with
 | zero =>
  intro i out hi hs
  rw [List.drop_eq_nil_of_le (by rw [List.length_range]; omega)]
  exact ⟨out, rfl, hs.more (by omega)⟩
 | succ d ih =>
  intro i out hi hs
  have hd : (List.range n).drop i = i :: (List.range n).drop (i + 1) := by rw [List.drop_eq_getElem_cons (by rw [List.length_range]; omega), List.getElem_range]
  have hr := hrow i
  obtain ⟨out1, q1, q2⟩ := climbs od gd K hK (b := (i : Int)) (by omega) (by omega) (rowOf h i) (i * 2000000) out (fun p hp => by rw [prevI_in (by omega) (by omega)]; exact hp) (by unfold LIMF; omega) hs
  obtain ⟨out2, r1, r2⟩ := ih (i + 1) out1 (by omega) (q2.more (by omega))
  refine ⟨out2, ?_, r2⟩
  rw [hd, List.foldlM_cons]
  unfold frontB at r1 ⊢
  rw [if_pos (by rw [od.hlen]; omega), q1]
  exact r1
end
section
variable (a0 : ByteArray) (l1 : List ByteArray) (a2 : ByteArray) (l3 : List ByteArray) (l4 : List S58) (l : List S40)
/-- All that the laws ask of the tree. -/
structure Dm (l : List S40) (o at_ nr : List Int) (s : List Bool) : Prop where
 od : Ord l.length o at_ (aheadRows l)
 gd : Good (aheadRows l) l.length at_ nr
 sl : s.length = l.length
 re : ∀ x, fnI l.length at_ x ≠ -1 ↔ hasR s x
theorem dm_all (hn : 1 ≤ l.length) (hl : l.length ≤ 30) : ∃ o at_ nr s out, Dm l o at_ nr s ∧ growO a0 l1 a2 l3 l4 l = some (o, at_, aheadRows l, nr.set 0 (-1)) ∧ flow_Reached.f a0 l1 a2 l3 l4 l = some s ∧
  dom_Front.f a0 l1 a2 l3 l4 l = some (out.map sortC) ∧ Snd l.length (aheadRows l) at_ (l.length * 2000000) out ∧ ((List.range l.length).foldlM (frontB at_ (aheadRows l) (nr.set 0 (-1)) (fuelD l.length)) (List.replicate l.length [])) = some out := by
 obtain ⟨o, at_, nr, s, g1, od, gd, r1, r2, r3⟩ := grow_is a0 l1 a2 l3 l4 l hn (by omega)
 have hrow : ∀ b : Nat, (rowOf (aheadRows l) b).length ≤ 2000000 := fun b => by
  by_cases hb : b < l.length
  ·have e : rowOf (aheadRows l) (b : Int) = aheadTo l l.length (b : Int) := by
    unfold rowOf aheadRows
    rw [getD_at _ _ (by simp; omega)]
    simp
   rw [e]
   have := ahead_len l (b : Int) l.length
   omega
  ·rw [rows_none (by omega) (by omega)]
   simp
 obtain ⟨out, f1, f2⟩ := blocks od gd (fuelD l.length) (by unfold fuelD; omega) (by omega) hrow l.length 0 (List.replicate l.length []) (by omega) ⟨List.length_replicate, fun a => by
   unfold rowOf; rw [List.getD_eq_getElem?_getD, List.getElem?_replicate]; split <;> simp, fun a a0 a1 x hx => by
   unfold rowOf at hx; rw [getD_at _ _ (by rw [List.length_replicate]; omega), List.getElem_replicate] at hx; cases hx⟩
 rw [List.drop_zero] at f1
 refine ⟨o, at_, nr, s, out, ⟨od, gd, r2, r3⟩, g1, r1, ?_, f2, f1⟩
 have hh : out.length = l.length ∧ ∀ r ∈ out, r.length < LIMF := ⟨f2.len, fun r hr => by
  obtain ⟨i, hi, rfl⟩ := List.mem_iff_getElem.mp hr
  have := f2.few (i : Int)
  unfold rowOf at this
  rw [Int.toNat_natCast, getD_at _ _ hi] at this
  exact Nat.lt_of_le_of_lt this (by unfold LIMF; omega)⟩
 unfold dom_Front.f
 rw [if_neg (by omega), if_neg (by omega), g1, Option.bind_some]
 simp only
 rw [f1, Option.bind_some, if_pos hh]
end
end Go.Proofs.Ytclhjalgflebfaa.Q

/- The document's Is: whom a way without a block comes to; and the nearest ones that it picks. -/

namespace Go.Proofs.Ytclhjalgflebfaa.Q
open Go.RowKit Go.Proofs.YtclhjalgflebfaaW.PrintWords Go.Proofs.YtclhjalgflebfaaW.PrintLast Go.Proofs.YtclhjalgflebfaaW.PrintMore
set_option linter.unusedVariables false
set_option linter.unusedSimpArgs false
/-- Whether a dominates b, as Is tells it. -/
def DI (l : List S40) (at_ : List Int) (a b : Int) : Prop := fnI l.length at_ a ≠ -1 ∧ Domi (prevI l.length (aheadRows l)) (fnI l.length at_) a b
section
variable {l : List S40} {o at_ nr : List Int} {s : List Bool}
theorem prev_iff {b p : Int} : p ∈ prevI l.length (aheadRows l) b ↔ b ∈ nextOf l p := by
 constructor
 ·intro h
  unfold prevI at h
  split at h
  ·rename_i hb
   exact ((rows_mem hb.1 hb.2).mp h).2.2
  ·cases h
 ·intro h
  obtain ⟨h0, h1⟩ := next_in h
  obtain ⟨p0, p1⟩ := next_dom h
  rw [prevI_in h0 h1]
  exact (rows_mem h0 h1).mpr ⟨p0, p1, h⟩
theorem reachL_walk {l : List S40} (hn : 0 < l.length) (hl : l.length ≤ 1000000) : ∃ e, Adds l (List.replicate l.length false) (reachL l) [0] (e ++ [0]) := by
 obtain ⟨s, e, h1, h2, _⟩ := walk_facts l (by unfold LIMF; omega) hn
 refine ⟨e, ?_⟩
 have e1 : reachL l = s := by unfold reachL; rw [h1]; rfl
 rw [e1]; exact h2
theorem reachL_least {l : List S40} (hn : 0 < l.length) (hl : l.length ≤ 1000000) : hasR (reachL l) 0 ∧ closedR l (reachL l) ∧ ∀ C : Int → Prop, C 0 → (∀ p, C p → ∀ y ∈ nextOf l p, C y) → ∀ x, hasR (reachL l) x → C x := by
 obtain ⟨e, h⟩ := reachL_walk hn hl
 have hm : ∀ x, hasR (reachL l) x ↔ x ∈ e ++ [0] := fun x => by rw [h.mem]; exact ⟨fun h => h.resolve_left (hasR_none _ _), .inr⟩
 exact ⟨(hm 0).mpr (by simp), fun x hx y hy => h.goes x ((hm x).mp hx) y hy, fun C h0 hC x hx => led_all h C (fun y hy => by rw [List.mem_singleton] at hy; subst hy; exact h0) hC x ((hm x).mp hx)⟩
theorem noJ_other {a : Nat} {p : Int} (hp : p ≠ (a : Int)) : nextOf (noJ l a) p = nextOf l p := by
 unfold nextOf
 rw [noJ_len]
 split
 ·rename_i h
  have e : rd_T40 (noJ l a) p = rd_T40 l p := by
   unfold rd_T40 noJ
   rw [List.getD_eq_getElem?_getD, List.getD_eq_getElem?_getD, List.getElem?_set_ne (by omega)]
  rw [e]
 ·rfl
theorem noJ_same {a : Nat} : nextOf (noJ l a) (a : Int) = [] := by
 unfold nextOf
 rw [noJ_len]
 split
 ·rename_i h
  have e : rd_T40 (noJ l a) (a : Int) = { rd_T40 l (a : Int) with f1 := 3 } := by
   conv => lhs; unfold rd_T40 noJ
   rw [Int.toNat_natCast, getD_at _ _ (by rw [List.length_set]; omega), List.getElem_set_self]
  rw [e]
  rfl
 ·rfl
/-- Without a: whom a way comes to that doesn't pass it. -/
theorem noJ_reach (hn : 0 < l.length) (hl : l.length ≤ 1000000) {a : Nat} (ha : a ≠ 0) {b : Int} (hb : b ≠ (a : Int)) : hasR (reachL (noJ l a)) b ↔ Av (prevI l.length (aheadRows l)) (fnI l.length at_) (a : Int) b := by
 obtain ⟨h0, hc, hl2⟩ := reachL_least (l := noJ l a) (by rw [noJ_len]; exact hn) (by rw [noJ_len]; exact hl)
 constructor
 ·intro h
  refine (hl2 (fun x => x = (a : Int) ∨ Av (prevI l.length (aheadRows l)) (fnI l.length at_) (a : Int) x) (.inr ⟨0, .zero (by omega)⟩) (fun p hp y hy => ?_) b h).resolve_left hb
  rcases hp with rfl | hp
  ·rw [noJ_same] at hy; cases hy
  ·by_cases e : y = (a : Int)
   ·exact .inl e
   ·have hpa : p ≠ (a : Int) := by obtain ⟨r, hr⟩ := hp; exact hr.ne
    rw [noJ_other hpa] at hy
    exact .inr (hp.step (prev_iff.mpr hy) e)
 ·rintro ⟨r, hr⟩
  induction hr with
  | zero _ => exact h0
  | fwd h hp hb2 _ ih => exact hc _ (ih h.ne) _ (by rw [noJ_other h.ne]; exact prev_iff.mp hp)
  | ret h hp hb2 _ ih => exact hc _ (ih h.ne) _ (by rw [noJ_other h.ne]; exact prev_iff.mp hp)
theorem reachL_is {a0 : ByteArray} {l1 : List ByteArray} {a2 : ByteArray} {l3 : List ByteArray} {l4 : List S58} (D : Dm l o at_ nr s) (h : flow_Reached.f a0 l1 a2 l3 l4 l = some s) : reachL l = s := by
 unfold flow_Reached.f at h
 unfold reachL
 rw [h]
 rfl
/-- An element of the document's table. -/
theorem cell_is (D : Dm l o at_ nr s) (hs : reachL l = s) (hn : 0 < l.length) (hl : l.length ≤ 1000000) {a b : Nat} (ha : a < l.length) (hb : b < l.length) : (rowI l a).getD b false = decB (DI l at_ (a : Int) (b : Int)) := by
 have hre : ∀ x : Nat, (reachL l).getD x false = true ↔ fnI l.length at_ (x : Int) ≠ -1 := fun x => by
  rw [D.re, hs]
  constructor
  ·exact fun h => hasR_at h
  ·intro h; have := h.2.2; rwa [rdOf_nat] at this
 unfold rowI
 by_cases h1 : (reachL l).getD a false = true
 ·rw [if_pos h1, getD_at _ _ (by simpa using hb)]
  simp only [List.getElem_map, List.getElem_range]
  have ra := (hre a).mp h1
  unfold cellI
  by_cases h2 : (reachL l).getD b false = true
  ·have rb := (hre b).mp h2
   rw [h2, Bool.true_and]
   by_cases e : a = b
   ·subst e
    rw [decide_eq_true rfl, decB_true (show DI l at_ a a from ⟨ra, .self ra⟩)]; rfl
   ·rw [decide_eq_false e, Bool.false_or]
    by_cases z : a = 0
    ·subst z
     rw [decide_eq_true rfl, decB_true (show DI l at_ ((0 : Nat) : Int) b from ⟨ra, zero_dom rb⟩)]; rfl
    ·rw [decide_eq_false z, Bool.false_or]
     have hk := noJ_reach (at_ := at_) hn hl z (b := (b : Int)) (by omega)
     have hk2 : (reachL (noJ l a)).getD b false = true ↔ hasR (reachL (noJ l a)) (b : Int) := ⟨fun h => hasR_at h, fun h => by have := h.2.2; rwa [rdOf_nat] at this⟩
     cases hv : (reachL (noJ l a)).getD b false with
     | true => rw [decB_false (fun h => h.2.2 (hk.mp (hk2.mp hv)))]; rfl
     | false => rw [decB_true (show DI l at_ (a : Int) (b : Int) from ⟨ra, rb, fun h => by rw [hk2.mpr (hk.mpr h)] at hv; cases hv⟩)]; rfl
  ·have e2 : (reachL l).getD b false = false := by simpa using h2
   rw [e2, Bool.false_and, decB_false (fun h => h2 ((hre b).mpr h.2.1))]
 ·rw [if_neg h1, decB_false (fun h => h1 ((hre a).mpr h.1)), getD_at _ _ (by simpa using hb)]
  simp
end
end Go.Proofs.Ytclhjalgflebfaa.Q

/- Fronts, plain: ascending rows; Front holds all of whom it is so; the document's Front. -/
namespace Go.Proofs.Ytclhjalgflebfaa.Q
open Go.RowKit Go.Proofs.YtclhjalgflebfaaW.PrintWords Go.Proofs.YtclhjalgflebfaaW.PrintLast Go.Proofs.YtclhjalgflebfaaW.PrintMore
set_option linter.unusedVariables false
set_option linter.unusedSimpArgs false
/-- Those below n of whom p holds, in order. -/
def ascTo (p : Nat → Bool) : Nat → List Int
 | 0 => []
 | k + 1 => if p k = true then ascTo p k ++ [(k : Int)] else ascTo p k
theorem asc_mem (p : Nat → Bool) : ∀ n x, x ∈ ascTo p n ↔ 0 ≤ x ∧ x < (n : Int) ∧ p x.toNat = true
 | 0, x => by
  constructor
  ·intro h; cases h
  ·intro h; omega
 | n + 1, x => by
  unfold ascTo
  split
  ·rename_i hp
   rw [List.mem_append, List.mem_singleton, asc_mem p n]
   constructor
   ·rintro (h | rfl)
    ·exact ⟨h.1, by omega, h.2.2⟩
    ·exact ⟨by omega, by omega, by rw [Int.toNat_natCast]; exact hp⟩
   ·rintro ⟨h0, h1, h2⟩
    by_cases e : x = (n : Int)
    ·exact .inr e
    ·exact .inl ⟨h0, by omega, h2⟩
  ·rename_i hp
   rw [asc_mem p n]
   constructor
   ·rintro h; exact ⟨h.1, by omega, h.2.2⟩
   ·rintro ⟨h0, h1, h2⟩
    by_cases e : x = (n : Int)
    ·rw [e, Int.toNat_natCast] at h2; exact absurd h2 hp
    ·exact ⟨h0, by omega, h2⟩
theorem asc_up (p : Nat → Bool) : ∀ n, (ascTo p n).Pairwise (· < ·)
 | 0 => List.Pairwise.nil
 | n + 1 => by
  unfold ascTo
  split
  ·refine List.pairwise_append.mpr ⟨asc_up p n, List.pairwise_singleton _ _, fun y hy z hz => ?_⟩
   rw [List.mem_singleton] at hz; subst hz
   exact ((asc_mem p n y).mp hy).2.1
  ·exact asc_up p n
theorem asc_len (p : Nat → Bool) : ∀ n, (ascTo p n).length ≤ n
 | 0 => Nat.le_refl _
 | n + 1 => by unfold ascTo; have := asc_len p n; split <;> simp <;> omega
theorem asc_at (p : Nat → Bool) {k : Nat} (hk : p k = true) : ∀ n, k < n → (ascTo p k).length < (ascTo p n).length ∧ rd (ascTo p n) ((ascTo p k).length : Int) = (k : Int)
 | 0, h => by omega
 | n + 1, h => by
  by_cases e : k = n
  ·subst e
   have e2 : ascTo p (k + 1) = ascTo p k ++ [(k : Int)] := if_pos hk
   rw [e2, List.length_append, List.length_singleton]
   refine ⟨by omega, ?_⟩
   unfold rd
   rw [Int.toNat_natCast, getD_at _ _ (by simp), List.getElem_append_right (Nat.le_refl _)]
   simp
  ·obtain ⟨h1, h2⟩ := asc_at p hk n (by omega)
   unfold rd at h2 ⊢
   rw [Int.toNat_natCast, getD_at _ _ h1] at h2
   have e2 : ∃ t, ascTo p (n + 1) = ascTo p n ++ t := by
    by_cases hp : p n = true
    ·exact ⟨[(n : Int)], if_pos hp⟩
    ·exact ⟨[], by rw [List.append_nil]; exact if_neg hp⟩
   obtain ⟨t, e2⟩ := e2
   rw [e2, Int.toNat_natCast]
   refine ⟨by rw [List.length_append]; omega, ?_⟩
   rw [getD_at _ _ (by rw [List.length_append]; omega), List.getElem_append_left h1]
   exact h2
/-- Two rows in order with the same elements are the same. -/
theorem asc_eq : ∀ {a b : List Int}, a.Pairwise (· < ·) → b.Pairwise (· < ·) → (∀ x, x ∈ a ↔ x ∈ b) → a = b
 | [], [], _, _, _ => rfl
 | [], y :: b, _, _, h => absurd ((h y).mpr List.mem_cons_self) (by simp)
 | x :: a, [], _, _, h => absurd ((h x).mp List.mem_cons_self) (by simp)
 | x :: a, y :: b, h1, h2, h => by
  rw [List.pairwise_cons] at h1 h2
  have e : x = y := by
   have q1 := (h x).mp List.mem_cons_self
   have q2 := (h y).mpr List.mem_cons_self
   rcases List.mem_cons.mp q1 with q1 | q1
   ·exact q1
   ·rcases List.mem_cons.mp q2 with q2 | q2
    ·exact q2.symm
    ·have := h1.1 y q2; have := h2.1 x q1; omega
  subst e
  congr 1
  refine asc_eq h1.2 h2.2 (fun z => ?_)
  have := h z
  rw [List.mem_cons, List.mem_cons] at this
  constructor
  ·intro hz
   rcases this.mp (.inr hz) with e | e
   ·have := h1.1 z hz; omega
   ·exact e
  ·intro hz
   rcases this.mpr (.inr hz) with e | e
   ·have := h2.1 z hz; omega
   ·exact e
theorem compact_upto (xs : List Int) (hs : ∀ i j, i ≤ j → j < xs.length → xs.getD i 0 ≤ xs.getD j 0) : ∀ m, m ≤ xs.length → (Lib.compactUpTo xs.toArray m).Pairwise (· < ·) ∧ (∀ y ∈ Lib.compactUpTo xs.toArray m, ∃ j, j < m ∧ y = xs.getD j 0) ∧ (∀ j, j < m → xs.getD j 0 ∈ Lib.compactUpTo xs.toArray m)
 | 0, _ => ⟨by simp [Lib.compactUpTo], fun y hy => by simp [Lib.compactUpTo] at hy, fun j hj => by omega⟩
 | m + 1, hm => by
  obtain ⟨h1, h2, h3⟩ := compact_upto xs hs m (by omega)
  have em : xs.toArray[m]! = xs.getD m 0 := by rw [getD_at _ _ (by omega)]; simp [show m < xs.length by omega]
  rw [Lib.compactUpTo_succ, em]
  by_cases hk : Lib.keeps xs.toArray m = true
  ·rw [if_pos hk]
   refine ⟨List.pairwise_append.mpr ⟨h1, List.pairwise_singleton _ _, fun y hy z hz => ?_⟩, fun y hy => ?_, fun j hj => ?_⟩
   ·rw [List.mem_singleton] at hz; subst hz
    obtain ⟨j, hj, rfl⟩ := h2 y hy
    have em1 : xs.toArray[m - 1]! = xs.getD (m - 1) 0 := by rw [getD_at _ _ (by omega)]; simp [show m - 1 < xs.length by omega]
    unfold Lib.keeps at hk
    have hk2 := (of_decide_eq_true hk).resolve_left (by omega)
    rw [em, em1] at hk2
    have := hs j (m - 1) (by omega) (by omega)
    have := hs (m - 1) m (by omega) (by omega)
    omega
   ·rcases List.mem_append.mp hy with hy | hy
    ·obtain ⟨j, hj, e⟩ := h2 y hy; exact ⟨j, by omega, e⟩
    ·rw [List.mem_singleton] at hy; exact ⟨m, by omega, hy⟩
   ·by_cases e : j = m
    ·subst e; simp
    ·exact List.mem_append_left _ (h3 j (by omega))
  ·have hk' : Lib.keeps xs.toArray m = false := by simpa using hk
   rw [if_neg hk, List.append_nil]
   unfold Lib.keeps at hk'
   have hk2 := of_decide_eq_false hk'
   have hm0 : m ≠ 0 := fun e => hk2 (.inl e)
   have em1 : xs.toArray[m - 1]! = xs.getD (m - 1) 0 := by rw [getD_at _ _ (by omega)]; simp [show m - 1 < xs.length by omega]
   have e : xs.getD m 0 = xs.getD (m - 1) 0 := by
    rw [← em, ← em1]
    exact Classical.byContradiction (fun q => hk2 (.inr q))
   refine ⟨h1, fun y hy => ?_, fun j hj => ?_⟩
   ·obtain ⟨j, hj, e⟩ := h2 y hy; exact ⟨j, by omega, e⟩
   ·by_cases ej : j = m
    ·subst ej; rw [e]; exact h3 (j - 1) (by omega)
    ·exact h3 j (by omega)
theorem sort_le (L : List Int) : (L.mergeSort fun x y => decide (x ≤ y)).Pairwise (· ≤ ·) := by
 have h := List.pairwise_mergeSort (le := fun x y : Int => decide (x ≤ y)) (fun a b c h1 h2 => by simp at h1 h2 ⊢; omega) (fun a b => by simp; omega) L
 exact h.imp (fun h => by simpa using h)
theorem sort_mono (L : List Int) : ∀ i j, i ≤ j → j < (L.mergeSort fun x y => decide (x ≤ y)).length → (L.mergeSort fun x y => decide (x ≤ y)).getD i 0 ≤ (L.mergeSort fun x y => decide (x ≤ y)).getD j 0 := fun i j hij hj => by
 by_cases e : i = j
 ·subst e; exact Int.le_refl _
 ·rw [getD_at _ _ (by omega), getD_at _ _ hj]
  exact List.pairwise_iff_getElem.mp (sort_le L) i j (by omega) hj (by omega)
/-- Sorted, and without what stands there twice. -/
theorem sortC_asc (L : List Int) (n : Nat) (p : Nat → Bool) (h : ∀ x, x ∈ L ↔ 0 ≤ x ∧ x < (n : Int) ∧ p x.toNat = true) : sortC L = ascTo p n := by
 obtain ⟨S, hS⟩ : ∃ S, S = L.mergeSort fun x y => decide (x ≤ y) := ⟨_, rfl⟩
 have hm := sort_mono L
 rw [← hS] at hm
 obtain ⟨h1, h2, h3⟩ := compact_upto S hm S.length (Nat.le_refl _)
 have e : sortC L = Lib.compactUpTo S.toArray S.length := by unfold sortC Lib.compact; rw [hS]
 rw [e]
 refine asc_eq h1 (asc_up p n) (fun x => ?_)
 rw [asc_mem, ← h]
 have hmem : x ∈ S ↔ x ∈ L := by rw [hS]; exact List.mem_mergeSort
 rw [← hmem]
 constructor
 ·intro hx
  obtain ⟨j, hj, rfl⟩ := h2 x hx
  rw [getD_at _ _ hj]
  exact List.getElem_mem hj
 ·intro hx
  obtain ⟨j, hj, rfl⟩ := List.mem_iff_getElem.mp hx
  rw [← getD_at S 0 hj]
  exact h3 j hj
section
variable {n : Nat} {o at_ nr : List Int} {h : List (List Int)}
/-- The way up: what is held stays, and b comes to each row that it should. -/
theorem climb_full (od : Ord n o at_ h) (gd : Good h n at_ nr) (K : Nat) (hK : n + 2 ≤ K) {b p : Int} (b0 : 0 ≤ b) (b1 : b < (n : Int)) (hp : p ∈ prevI n h b) :
  ∀ (k : Nat) (x : Int) (out out' : List (List Int)), (x = -1 ∨ (fnI n at_ x ≠ -1 ∧ On (fnI n nr) x p)) → out.length = n → climbO at_ (nr.set 0 (-1)) K b p k x out = some out' →
   out'.length = n ∧ (∀ a y, 0 ≤ a → y ∈ rowOf out a → y ∈ rowOf out' a) ∧ (x ≠ -1 → fnI n at_ p ≠ -1 → ∀ a, fnI n at_ a ≠ -1 → On (fnI n nr) a x → (a = b ∨ ¬ Domi (prevI n h) (fnI n at_) a b) → b ∈ rowOf out' a) := by
 obtain ⟨p0, p1⟩ := od.rows b p hp
 have e1 : rd at_ p = fnI n at_ p := (fnI_rd p0 p1).symm
 intro k
 induction k with
 | zero => intro x out out' _ _ hq; simp [climbO] at hq
 | succ k ih =>
  intro x out out' hx hol hq
  rw [climbO] at hq
  obtain ⟨g, hg, hq⟩ := Option.bind_eq_some_iff.mp hq
  unfold climbS at hg
  rw [if_pos ⟨p0, by rw [od.len]; exact p1⟩, e1] at hg
  by_cases hpr : fnI n at_ p = -1
  ·rw [if_pos hpr] at hg
   obtain rfl := Option.some.inj hg
   simp only [Bool.false_eq_true, if_false, Option.some.injEq] at hq
   subst hq
   exact ⟨hol, fun a y _ hy => hy, fun _ h => absurd hpr h⟩
  ·rw [if_neg hpr] at hg
   by_cases hx1 : x = -1
   ·rw [if_pos hx1] at hg
    obtain rfl := Option.some.inj hg
    simp only [Bool.false_eq_true, if_false, Option.some.injEq] at hq
    subst hq
    exact ⟨hol, fun a y _ hy => hy, fun h => absurd hx1 h⟩
   ·rw [if_neg hx1] at hg
    obtain ⟨hxr, hon⟩ := hx.resolve_left hx1
    obtain ⟨x0, x1⟩ := fnI_in hxr
    have hgo : g = true → (x = b ∨ ¬ Domi (prevI n h) (fnI n at_) x b) → out'.length = n ∧ (∀ a y, 0 ≤ a → y ∈ rowOf out a → y ∈ rowOf out' a) ∧ (x ≠ -1 → fnI n at_ p ≠ -1 → ∀ a, fnI n at_ a ≠ -1 → On (fnI n nr) a x → (a = b ∨ ¬ Domi (prevI n h) (fnI n at_) a b) → b ∈ rowOf out' a) := fun hgt hwhy => by
     rw [if_pos hgt] at hq
     split at hq
     case isFalse => cases hq
     rename_i hb
     have hnx : rd (nr.set 0 (-1)) x = if x = 0 then -1 else fnI n nr x := rd_root gd.len x0 x1
     rw [hnx] at hq
     have hon2 : (if x = 0 then -1 else fnI n nr x) = -1 ∨ (fnI n at_ (if x = 0 then -1 else fnI n nr x) ≠ -1 ∧ On (fnI n nr) (if x = 0 then -1 else fnI n nr x) p) := by
      by_cases hz : x = 0
      ·rw [if_pos hz]; exact .inl rfl
      ·rw [if_neg hz]
       have hu := gd.tr.up x hz (gd.known x hxr)
       exact .inr ⟨gd.tr.known _ hu.2, (On.up hz .self : On (fnI n nr) (fnI n nr x) x).trans hon⟩
     obtain ⟨r1, r2, r3⟩ := ih _ _ _ hon2 (by rw [List.length_set]; exact hol) hq
     refine ⟨r1, fun a y a0 hy => r2 a y a0 ?_, fun _ _ a har hona hw => ?_⟩
     ·rw [row_set x0 hb.2.1 a0]
      split
      ·rename_i e; subst e; exact List.mem_append_left _ hy
      ·exact hy
     ·obtain ⟨a0, a1⟩ := fnI_in har
      by_cases ea : a = x
      ·refine r2 a b a0 ?_
       rw [row_set x0 hb.2.1 a0, if_pos ea]
       simp
      ·obtain ⟨hz, hona2⟩ := hona.next ea
       rw [if_neg hz] at r3
       have hu := gd.tr.up x hz (gd.known x hxr)
       have hur := gd.tr.known _ hu.2
       exact r3 (fun e => by rw [e] at hur; exact hur od.gr.none) hpr a har hona2 hw
    by_cases hxb : x = b
    ·rw [if_pos hxb] at hg
     exact hgo (Option.some.inj hg).symm (.inl hxb)
    ·rw [if_neg hxb, is_spec od gd K hK x0 x1 b0 b1] at hg
     by_cases hd : fnI n at_ x ≠ -1 ∧ Domi (prevI n h) (fnI n at_) x b
     ·rw [decB_true hd] at hg
      have hgf : g = false := (Option.some.inj hg).symm
      subst hgf
      simp only [Bool.false_eq_true, if_false, Option.some.injEq] at hq
      subst hq
      refine ⟨hol, fun a y _ hy => hy, fun _ _ a har hona hw => ?_⟩
      exfalso
      have hbr := hd.2.1
      have hxb2 := (gd.on x b hxr hbr).mpr hd.2
      rcases hw with e | hw
      ·subst e
       have l1 := hona.le gd.tr (gd.known x hxr)
       have l2 := hxb2.le gd.tr (gd.known _ hbr)
       exact hxb (od.gr.inj _ _ hxr (by omega))
      ·exact hw ((gd.on a b har hbr).mp (hona.trans hxb2))
     ·rw [decB_false hd] at hg
      exact hgo (Option.some.inj hg).symm (.inr (fun q => hd ⟨hxr, q⟩))
theorem climbs_full (od : Ord n o at_ h) (gd : Good h n at_ nr) (K : Nat) (hK : n + 2 ≤ K) {b : Int} (b0 : 0 ≤ b) (b1 : b < (n : Int)) : ∀ (ps : List Int) (out out' : List (List Int)), (∀ p ∈ ps, p ∈ prevI n h b) → out.length = n →
  ps.foldlM (fun out p => climbO at_ (nr.set 0 (-1)) K b p K p out) out = some out' → out'.length = n ∧ (∀ a y, 0 ≤ a → y ∈ rowOf out a → y ∈ rowOf out' a) ∧ ∀ p ∈ ps, fnI n at_ p ≠ -1 → ∀ a, fnI n at_ a ≠ -1 → On (fnI n nr) a p → (a = b ∨ ¬ Domi (prevI n h) (fnI n at_) a b) → b ∈ rowOf out' a
 | [], out, out', _, hol, hq => by
  have e : out = out' := Option.some.inj hq
  subst e
  exact ⟨hol, fun a y _ hy => hy, fun p hp => by cases hp⟩
 | p :: ps, out, out', hp, hol, hq => by
  rw [List.foldlM_cons] at hq
  obtain ⟨out1, q1, q2⟩ := Option.bind_eq_some_iff.mp hq
  have hpp := hp p List.mem_cons_self
  by_cases hpr : fnI n at_ p = -1
  ·obtain ⟨p0, p1⟩ := od.rows b p hpp
   have e : out1 = out := by
    obtain ⟨k, rfl⟩ : ∃ k, K = k + 1 := ⟨K - 1, by omega⟩
    rw [climbO] at q1
    unfold climbS at q1
    rw [if_pos ⟨p0, by rw [od.len]; exact p1⟩, ← fnI_rd p0 p1, if_pos hpr] at q1
    exact (Option.some.inj q1).symm
   subst e
   obtain ⟨s1, s2, s3⟩ := climbs_full od gd K hK b0 b1 ps out1 out' (fun x hx => hp x (List.mem_cons_of_mem _ hx)) hol q2
   refine ⟨s1, s2, fun x hx hxr => ?_⟩
   rcases List.mem_cons.mp hx with rfl | hx
   ·exact absurd hpr hxr
   ·exact s3 x hx hxr
  ·obtain ⟨r1, r2, r3⟩ := climb_full od gd K hK b0 b1 hpp K p out out1 (.inr ⟨hpr, .self⟩) hol q1
   obtain ⟨s1, s2, s3⟩ := climbs_full od gd K hK b0 b1 ps out1 out' (fun x hx => hp x (List.mem_cons_of_mem _ hx)) r1 q2
   refine ⟨s1, fun a y a0 hy => s2 a y a0 (r2 a y a0 hy), fun x hx hxr a har hon hw => ?_⟩
   rcases List.mem_cons.mp hx with rfl | hx
   ·exact s2 a b (fnI_in har).1 (r3 (fun e => by rw [e] at hxr; exact hxr od.gr.none) hxr a har hon hw)
   ·exact s3 x hx hxr a har hon hw
theorem blocks_full (od : Ord n o at_ h) (gd : Good h n at_ nr) (K : Nat) (hK : n + 2 ≤ K) : ∀ (d i : Nat) (out out' : List (List Int)), i + d = n → out.length = n → ((List.range n).drop i).foldlM (frontB at_ h (nr.set 0 (-1)) K) out = some out' →
  (∀ a y, 0 ≤ a → y ∈ rowOf out a → y ∈ rowOf out' a) ∧ ∀ b : Nat, i ≤ b → b < n → ∀ a, Fr n h at_ a b → (b : Int) ∈ rowOf out' a := by
 intro d
 induction d with
 | zero =>
  intro i out out' hi hol hq
  rw [List.drop_eq_nil_of_le (by rw [List.length_range]; omega)] at hq
  have e : out = out' := Option.some.inj hq
  subst e
  exact ⟨fun a y _ hy => hy, fun b h1 h2 => by omega⟩
 | succ d ih =>
  intro i out out' hi hol hq
  have hd : (List.range n).drop i = i :: (List.range n).drop (i + 1) := by rw [List.drop_eq_getElem_cons (by rw [List.length_range]; omega), List.getElem_range]
  rw [hd, List.foldlM_cons] at hq
  obtain ⟨out1, q1, q2⟩ := Option.bind_eq_some_iff.mp hq
  unfold frontB at q1
  rw [if_pos (by rw [od.hlen]; omega)] at q1
  obtain ⟨r1, r2, r3⟩ := climbs_full od gd K hK (b := (i : Int)) (by omega) (by omega) (rowOf h i) out out1 (fun p hp => by rw [prevI_in (by omega) (by omega)]; exact hp) hol q1
  obtain ⟨s1, s2⟩ := ih (i + 1) out1 out' (by omega) r1 q2
  refine ⟨fun a y a0 hy => s1 a y a0 (r2 a y a0 hy), fun b hb1 hb2 a hf => ?_⟩
  by_cases e : b = i
  ·subst e
   obtain ⟨har, p, hp, hpr, hdom, hw⟩ := hf
   rw [prevI_in (by omega) (by omega)] at hp
   exact s1 a _ (fnI_in har).1 (r3 p hp hpr a har ((gd.on a p har hpr).mpr hdom) hw)
  ·exact s2 b (by omega) hb2 a hf
end
section
variable {l : List S40} {o at_ nr : List Int} {s : List Bool}
/-- The document's front. -/
theorem frTo_is (D : Dm l o at_ nr s) (hs : reachL l = s) (hn : 0 < l.length) (hl : l.length ≤ 1000000) {a x : Nat} (ha : a < l.length) (hx : x < l.length) : ∀ p, p ≤ l.length → ((frTo l (rowI l a) a p).getD x false = true ↔ ∃ q : Nat, q < p ∧ DI l at_ a q ∧ (x : Int) ∈ nextOf l q ∧ (a = x ∨ ¬ DI l at_ a x))
 | 0, _ => by
  unfold frTo
  rw [getD_at _ _ (by rw [List.length_replicate]; exact hx), List.getElem_replicate]
  constructor
  ·intro h; cases h
  ·rintro ⟨q, h, _⟩; omega
 | p + 1, hp => by
  have ih := frTo_is D hs hn hl ha hx p (by omega)
  have hfold : ∀ (ts : List Int) (row : List Bool), row.length = l.length → (∀ t ∈ ts, 0 ≤ t ∧ t < (l.length : Int)) → ((ts.foldl (stepFr (rowI l a) a) row).getD x false = true ↔ row.getD x false = true ∨ ((x : Int) ∈ ts ∧ (a = x ∨ ¬ DI l at_ a x))) := by
   intro ts
   induction ts with
   | nil => intro row _ _; simp
   | cons t ts iht =>
    intro row hr ht
    show ((ts.foldl (stepFr (rowI l a) a) (stepFr (rowI l a) a row t)).getD x false = true ↔ _)
    have ht0 := ht t List.mem_cons_self
    have hlen : (stepFr (rowI l a) a row t).length = l.length := by unfold stepFr; split <;> simp [hr]
    rw [iht _ hlen (fun z hz => ht z (List.mem_cons_of_mem _ hz)), List.mem_cons]
    have key : (stepFr (rowI l a) a row t).getD x false = true ↔ row.getD x false = true ∨ ((x : Int) = t ∧ (a = x ∨ ¬ DI l at_ a x)) := by
     obtain ⟨tn, rfl⟩ : ∃ tn : Nat, t = tn := ⟨t.toNat, by omega⟩
     unfold stepFr
     rw [rdOf_nat, cell_is D hs hn hl ha (by omega)]
     by_cases hc : (a : Int) = (tn : Int) ∨ decB (DI l at_ a tn) = false
     ·rw [if_pos hc, Int.toNat_natCast]
      have hc2 : (a : Int) = (tn : Int) ∨ ¬ DI l at_ a tn := hc.imp id (fun h k => by rw [decB_true k] at h; cases h)
      by_cases e : x = tn
      ·subst e
       rw [getD_at _ _ (by rw [List.length_set]; omega), List.getElem_set_self]
       exact ⟨fun _ => .inr ⟨rfl, hc2.imp (fun h => by omega) id⟩, fun _ => rfl⟩
      ·rw [List.getD_eq_getElem?_getD, List.getElem?_set_ne (by omega), ← List.getD_eq_getElem?_getD]
       exact ⟨.inl, fun h => h.resolve_right (fun k => e (by omega))⟩
     ·rw [if_neg hc]
      refine ⟨.inl, fun h => h.resolve_right (fun k => hc ?_)⟩
      obtain ⟨e, hw⟩ := k
      have e2 : x = tn := by omega
      subst e2
      exact hw.imp (fun h => by omega) (fun h => decB_false h)
    rw [key]
    constructor
    ·rintro ((h | ⟨h1, h2⟩) | ⟨h1, h2⟩)
     ·exact .inl h
     ·exact .inr ⟨.inl h1, h2⟩
     ·exact .inr ⟨.inr h1, h2⟩
    ·rintro (h | ⟨h1 | h1, h2⟩)
     ·exact .inl (.inl h)
     ·exact .inl (.inr ⟨h1, h2⟩)
     ·exact .inr ⟨h1, h2⟩
  unfold frTo
  have hci := cell_is D hs hn hl ha (b := p) (by omega)
  by_cases hd : DI l at_ a p
  ·rw [if_pos (by rw [hci]; exact decB_true hd), hfold _ _ (frTo_len l _ a p) (fun t ht => next_in ht), ih]
   constructor
   ·rintro (⟨q, h1, h2⟩ | ⟨h1, h2⟩)
    ·exact ⟨q, by omega, h2⟩
    ·exact ⟨p, by omega, hd, h1, h2⟩
   ·rintro ⟨q, h1, h2, h3, h4⟩
    by_cases e : q = p
    ·subst e; exact .inr ⟨h3, h4⟩
    ·exact .inl ⟨q, by omega, h2, h3, h4⟩
  ·rw [if_neg (by rw [hci, decB_false hd]; simp), ih]
   constructor
   ·rintro ⟨q, h1, h2⟩; exact ⟨q, by omega, h2⟩
   ·rintro ⟨q, h1, h2, h3⟩
    by_cases e : q = p
    ·subst e; exact absurd h2 hd
    ·exact ⟨q, by omega, h2, h3⟩
theorem frRow_is (D : Dm l o at_ nr s) (hs : reachL l = s) (hn : 0 < l.length) (hl : l.length ≤ 1000000) {a x : Nat} (ha : a < l.length) (hx : x < l.length) : (frRow l a).getD x false = decB (Fr l.length (aheadRows l) at_ a x) := by
 have key : (frRow l a).getD x false = true ↔ Fr l.length (aheadRows l) at_ a x := by
  unfold frRow
  rw [frTo_is D hs hn hl ha hx l.length (Nat.le_refl _)]
  constructor
  ·rintro ⟨q, hq, ⟨h1, h2⟩, h3, h4⟩
   exact ⟨h1, q, prev_iff.mpr h3, h2.1, h2, h4.imp (fun h => by omega) (fun h k => h ⟨h1, k⟩)⟩
  ·rintro ⟨h1, p, hp, hpr, hd, hw⟩
   obtain ⟨p0, p1⟩ := fnI_in hpr
   obtain ⟨q, rfl⟩ : ∃ q : Nat, p = q := ⟨p.toNat, by omega⟩
   exact ⟨q, by omega, ⟨h1, hd⟩, prev_iff.mp hp, hw.imp (fun h => by omega) (fun h k => h k.2)⟩
 by_cases h : Fr l.length (aheadRows l) at_ a x
 ·rw [decB_true h]; exact key.mpr h
 ·rw [decB_false h]
  cases hv : (frRow l a).getD x false with
  | true => exact absurd (key.mp hv) h
  | false => rfl
end
end Go.Proofs.Ytclhjalgflebfaa.Q

/- Dom, plain law: the anchor, and what is more than is asked. -/

namespace Go.Proofs.Ytclhjalgflebfaa.Q
open Go.RowKit Go.Proofs.YtclhjalgflebfaaW.PrintWords Go.Proofs.YtclhjalgflebfaaW.PrintLast Go.Proofs.YtclhjalgflebfaaW.PrintMore
set_option linter.unusedVariables false
set_option linter.unusedSimpArgs false
theorem awake_true : Ev (fun k => truantlaw10_awake.f k) true := by
 have h : truantlaw10_awake.f 40 = some true := by kernel_rfl
 exact Ev.of (fun k => truantlaw10_awake.mono k) h
end Go.Proofs.Ytclhjalgflebfaa.Q

/- Each block's front, and the fronts of all that is found, are the document's. -/
namespace Go.Proofs.Ytclhjalgflebfaa.Q
open Go.RowKit Go.Proofs.YtclhjalgflebfaaW.PrintWords Go.Proofs.YtclhjalgflebfaaW.PrintLast Go.Proofs.YtclhjalgflebfaaW.PrintMore
set_option linter.unusedVariables false
set_option linter.unusedSimpArgs false
/-- Whom an edge leads to, of all that is found. -/
inductive Fnd (bl : List Int) (E : Int → Int → Prop) : Int → Prop
 | base {b x : Int} (h : b ∈ bl) (e : E b x) : Fnd bl E x
 | step {b x : Int} (h : Fnd bl E b) (e : E b x) : Fnd bl E x
theorem getD_nat (s : List Bool) (m : Nat) : rdOf false s (m : Int) = s.getD m false := rdOf_nat s m
theorem wk_ (k : Nat) (h1 : k ≤ 100000) : wrap64 ((k : Int) + 1) = ((k + 1 : Nat) : Int) := by unfold wrap64; omega
/-- A row is or'ed in, as far as k. -/
def orTo (wi all : List Bool) : Nat → List Bool
 | 0 => all
 | k + 1 => (orTo wi all k).set k (all.getD k false || wi.getD k false)
theorem orTo_len (wi all : List Bool) : ∀ k, (orTo wi all k).length = all.length
 | 0 => rfl
 | k + 1 => by unfold orTo; rw [List.length_set, orTo_len wi all k]
theorem orTo_get (wi all : List Bool) : ∀ k x : Nat, k ≤ all.length → (orTo wi all k).getD x false = if x < k then (all.getD x false || wi.getD x false) else all.getD x false
 | 0, x, _ => by rw [if_neg (by omega)]; rfl
 | k + 1, x, hk => by
  have ih := orTo_get wi all k x (by omega)
  unfold orTo
  by_cases e : x = k
  ·subst e
   rw [if_pos (by omega), getD_at _ _ (by rw [List.length_set, orTo_len]; omega), List.getElem_set_self]
  ·rw [List.getD_eq_getElem?_getD, List.getElem?_set_ne (by omega), ← List.getD_eq_getElem?_getD, ih]
   by_cases h : x < k
   ·rw [if_pos h, if_pos (by omega)]
   ·rw [if_neg h, if_neg (by omega)]
/-- One round, as far as i. -/
def rnd (W : Nat → List Bool) (bl : List Int) (n : Nat) (all : List Bool) : Nat → List Bool
 | 0 => all
 | i + 1 => if (rnd W bl n all i).getD i false = true ∨ (i : Int) ∈ bl then orTo (W i) (rnd W bl n all i) n else rnd W bl n all i
section
variable {W : Nat → List Bool} {bl : List Int} {n : Nat} {all : List Bool}
theorem rnd_len (h : all.length = n) : ∀ i, (rnd W bl n all i).length = n
 | 0 => h
 | i + 1 => by
  unfold rnd
  split
  ·rw [orTo_len, rnd_len h i]
  ·exact rnd_len h i
theorem rnd_up (h : all.length = n) (i : Nat) (x : Nat) (hx : (rnd W bl n all i).getD x false = true) : (rnd W bl n all (i + 1)).getD x false = true := by
 conv => lhs; unfold rnd
 split
 ·rw [orTo_get _ _ _ _ (by rw [rnd_len h i]; exact Nat.le_refl _), hx]
  split <;> rfl
 ·exact hx
theorem rnd_all (h : all.length = n) (x : Nat) (hx : all.getD x false = true) : ∀ i, (rnd W bl n all i).getD x false = true
 | 0 => hx
 | i + 1 => rnd_up h i x (rnd_all h x hx i)
theorem rnd_more (h : all.length = n) (x : Nat) {i : Nat} (hx : (rnd W bl n all i).getD x false = true) : ∀ d, (rnd W bl n all (i + d)).getD x false = true
 | 0 => hx
 | d + 1 => rnd_up h (i + d) x (rnd_more h x hx d)
theorem rnd_sound (h : all.length = n) {E : Int → Int → Prop} (hW : ∀ b x : Nat, b < n → x < n → ((W b).getD x false = true ↔ E b x)) (hs : ∀ x : Nat, all.getD x false = true → Fnd bl E x) : ∀ i, i ≤ n → ∀ x : Nat, (rnd W bl n all i).getD x false = true → Fnd bl E x
 | 0, _, x, hx => hs x hx
 | i + 1, hi, x, hx => by
  have ih := rnd_sound h hW hs i (by omega)
  unfold rnd at hx
  split at hx
  ·rename_i hc
   rw [orTo_get _ _ _ _ (by rw [rnd_len h i]; exact Nat.le_refl _)] at hx
   by_cases hxn : x < n
   ·rw [if_pos hxn, Bool.or_eq_true] at hx
    rcases hx with hx | hx
    ·exact ih x hx
    ·have e := (hW i x (by omega) hxn).mp hx
     rcases hc with hc | hc
     ·exact .step (ih i hc) e
     ·exact .base hc e
   ·rw [if_neg hxn] at hx
    exact ih x hx
  ·exact ih x hx
/-- Nothing new: then it is closed. -/
def Shut (W : Nat → List Bool) (bl : List Int) (n : Nat) (all : List Bool) : Prop := ∀ b x : Nat, b < n → x < n → (all.getD b false = true ∨ (b : Int) ∈ bl) → (W b).getD x false = true → all.getD x false = true
theorem rnd_still (h : all.length = n) (hc : Shut W bl n all) : ∀ i, i ≤ n → rnd W bl n all i = all
 | 0, _ => rfl
 | i + 1, hi => by
  unfold rnd
  rw [rnd_still h hc i (by omega)]
  split
  ·rename_i hb
   refine lists_eq false (by rw [orTo_len]) (fun x hx => ?_)
   rw [orTo_len, h] at hx
   rw [orTo_get _ _ _ _ (by omega), if_pos hx]
   cases hv : (W i).getD x false with
   | false => rw [Bool.or_false]
   | true => rw [hc i x (by omega) hx hb hv]; rfl
  ·rfl
theorem rnd_step (h : all.length = n) : (Shut W bl n all ∧ rnd W bl n all n = all) ∨ unseen (rnd W bl n all n) + 1 ≤ unseen all := by
 obtain ⟨h1, h2⟩ := unseen_le (r := all) (r' := rnd W bl n all n) (by rw [rnd_len h, h]) (fun j hj => rnd_all h j hj n)
 by_cases he : unseen (rnd W bl n all n) = unseen all
 ·have e := h2 he
  left
  refine ⟨fun b x hb hx hc hw => ?_, e⟩
  have hbk : rnd W bl n all b = all := by
   refine lists_eq false (by rw [rnd_len h, h]) (fun j hj => ?_)
   cases hv : all.getD j false with
   | true => exact rnd_all h j hv b
   | false =>
    cases hv2 : (rnd W bl n all b).getD j false with
    | false => rfl
    | true =>
     have := rnd_more h j hv2 (n - b)
     rw [show b + (n - b) = n by omega, e, hv] at this
     cases this
  have h3 : (rnd W bl n all (b + 1)).getD x false = true := by
   unfold rnd
   rw [hbk, if_pos hc, orTo_get _ _ _ _ (by omega), if_pos hx, hw, Bool.or_true]
  have := rnd_more h x h3 (n - (b + 1))
  rwa [show b + 1 + (n - (b + 1)) = n by omega, e] at this
 ·right; omega
end
section
variable (a0 : ByteArray) (l1 : List ByteArray) (a2 : ByteArray) (l3 : List ByteArray) (l4 : List S58) (l : List S40)
theorem fr_l6 (p : Nat → Bool) (all : List Bool) (ha : ∀ x : Nat, x < all.length → all.getD x false = p x) (hl : all.length ≤ 1000) : ∀ (d k : Nat), all.length - k = d → k ≤ all.length → Ev (fun n => truantlaw10_DomFronts.l6 n all (ascTo p all.length) ((ascTo p k).length : Int) (k : Int)) true := by
 intro d
 induction d with
 | zero =>
  intro k hd hk
  have e : k = all.length := by omega
  subst e
  exact Ev.step (fun k => rfl) (Ev.neg (by omega) (Ev.eq (Ev.now _) (by simp)))
 | succ d ih =>
  intro k hd hk
  have hlt : k < all.length := by omega
  have h7 := ih (k + 1) (by omega) (by omega)
  have hc := asc_len p k
  have c1 : (k : Int) < (all.length : Int) := by omega
  have c2 : k ≤ 100000 := by omega
  have c3 : (ascTo p k).length ≤ 100000 := by omega
  have wk := wk_ k c2
  have wa := wk_ _ c3
  refine Ev.step (fun k => rfl) (Ev.pos c1 (Ev.pos (Int.natCast_nonneg _) ?_))
  rw [getD_nat, ha k hlt, wk]
  by_cases hp : p k = true
  ·obtain ⟨q1, q2⟩ := asc_at p hp all.length hlt
   have e : ascTo p (k + 1) = ascTo p k ++ [(k : Int)] := if_pos hp
   rw [e, List.length_append, List.length_singleton] at h7
   refine Ev.pos hp (Ev.neg (fun h => by have := Int.ofNat_lt.mpr q1; exact absurd this (Int.not_lt.mpr h)) (Ev.pos (Int.natCast_nonneg _) (Ev.pos (Int.ofNat_lt.mpr q1) (Ev.pos q2 ?_))))
   rw [wa]
   exact h7
  ·have e : ascTo p (k + 1) = ascTo p k := if_neg hp
   rw [e] at h7
   exact Ev.neg hp h7
theorem fr_l1 (bl : List Int) (u : List (List Int)) (w : List (List Bool)) (i : Nat) (hi : i < w.length) (hul : u.length = w.length) (hl : w.length ≤ 1000) (p : Nat → Bool) (hu : rd_L2 u (i : Int) = ascTo p w.length) (hwl : (rd_L7 w (i : Int)).length = w.length) (hw : ∀ x : Nat, x < w.length → (rd_L7 w (i : Int)).getD x false = p x)
  (hnext : Ev (fun n => truantlaw10_DomFronts.l0 n bl u w ((i + 1 : Nat) : Int) a0 l1 a2 l3 l4 l) true) :
  ∀ (d k : Nat), w.length - k = d → k ≤ w.length → Ev (fun n => truantlaw10_DomFronts.l1 n bl u w (i : Int) ((ascTo p k).length : Int) (k : Int) a0 l1 a2 l3 l4 l) true := by
 have ci : (i : Int) < (w.length : Int) := by omega
 have cu : (i : Int) < (u.length : Int) := by omega
 have ci2 : i ≤ 100000 := by omega
 have wi := wk_ i ci2
 intro d
 induction d with
 | zero =>
  intro k hd hk
  have e : k = w.length := by clear wi; omega
  subst e
  refine Ev.step (fun k => rfl) (Ev.neg (Int.lt_irrefl _) (Ev.pos (Int.natCast_nonneg _) (Ev.pos cu (Ev.pos (by rw [hu]) ?_))))
  rw [wi]
  exact hnext
 | succ d ih =>
  intro k hd hk
  have hlt : k < w.length := by clear wi; omega
  have h7 := ih (k + 1) (by clear wi; omega) (by clear wi; omega)
  have hc := asc_len p k
  have c1 : (k : Int) < (w.length : Int) := by clear wi; omega
  have c2 : k ≤ 100000 := by clear wi; omega
  have c3 : (ascTo p k).length ≤ 100000 := by clear wi; omega
  have wk := wk_ k c2
  have wa := wk_ _ c3
  refine Ev.step (fun k => rfl) (Ev.pos c1 (Ev.pos (Int.natCast_nonneg _) (Ev.pos ci (Ev.pos (Int.natCast_nonneg _) (Ev.pos (by rw [hwl]; exact c1) ?_)))))
  rw [getD_nat, hw k hlt, wk, hu]
  by_cases hp : p k = true
  ·obtain ⟨q1, q2⟩ := asc_at p hp w.length hlt
   have e : ascTo p (k + 1) = ascTo p k ++ [(k : Int)] := if_pos hp
   rw [e, List.length_append, List.length_singleton] at h7
   refine Ev.pos hp (Ev.pos cu (Ev.neg (fun h => absurd (Int.ofNat_lt.mpr q1) (Int.not_lt.mpr h)) (Ev.pos (Int.natCast_nonneg _) (Ev.pos (Int.ofNat_lt.mpr q1) (Ev.pos q2 ?_)))))
   rw [wa]
   exact h7
  ·have e : ascTo p (k + 1) = ascTo p k := if_neg hp
   rw [e] at h7
   exact Ev.neg hp h7
theorem fr_l5 (bl : List Int) (w : List (List Bool)) (r i : Nat) (hi : i < w.length) (hl : w.length ≤ 1000) (hwl : (rd_L7 w (i : Int)).length = w.length) (all : List Bool) (ha : all.length = w.length) (q : Bool)
  (hnext : Ev (fun n => truantlaw10_DomFronts.l3 n bl w (orTo (rd_L7 w (i : Int)) all w.length) (r : Int) ((i + 1 : Nat) : Int) a0 l1 a2 l3 l4 l) q) :
  ∀ (d k : Nat), w.length - k = d → k ≤ w.length → Ev (fun n => truantlaw10_DomFronts.l5 n bl w (orTo (rd_L7 w (i : Int)) all k) (r : Int) (i : Int) true (k : Int) a0 l1 a2 l3 l4 l) q := by
 have ci : (i : Int) < (w.length : Int) := by omega
 have ci2 : i ≤ 100000 := by omega
 have wi := wk_ i ci2
 intro d
 induction d with
 | zero =>
  intro k hd hk
  have e : k = w.length := by clear wi; omega
  subst e
  refine Ev.step (fun k => rfl) (Ev.pos rfl (Ev.neg (Int.lt_irrefl _) ?_))
  rw [wi]
  exact hnext
 | succ d ih =>
  intro k hd hk
  have hlt : k < w.length := by clear wi; omega
  have h7 := ih (k + 1) (by clear wi; omega) (by clear wi; omega)
  have c1 : (k : Int) < (w.length : Int) := by clear wi; omega
  have c2 : k ≤ 100000 := by clear wi; omega
  have hol := orTo_len (rd_L7 w (i : Int)) all k
  have c3 : (k : Int) < ((orTo (rd_L7 w (i : Int)) all k).length : Int) := by rw [hol, ha]; exact c1
  have hg : (orTo (rd_L7 w (i : Int)) all k).getD k false = all.getD k false := by rw [orTo_get _ _ _ _ (by rw [ha]; exact Nat.le_of_lt hlt), if_neg (Nat.lt_irrefl _)]
  have wk := wk_ k c2
  refine Ev.step (fun k => rfl) (Ev.pos rfl (Ev.pos c1 (Ev.pos (Int.natCast_nonneg _) (Ev.pos c3 ?_))))
  rw [getD_nat, hg, wk, Int.toNat_natCast]
  have e : orTo (rd_L7 w (i : Int)) all (k + 1) = (orTo (rd_L7 w (i : Int)) all k).set k (all.getD k false || (rd_L7 w (i : Int)).getD k false) := rfl
  rw [e] at h7
  cases hv : all.getD k false with
  | true =>
   rw [hv, Bool.true_or] at h7
   exact Ev.pos rfl h7
  | false =>
   rw [hv, Bool.false_or] at h7
   refine Ev.neg (by simp) (Ev.pos (Int.natCast_nonneg _) (Ev.pos ci (Ev.pos (by rw [hwl]; exact c1) ?_)))
   rw [getD_nat]
   exact h7
theorem fr_l4 (bl : List Int) (hbl : bl.length ≤ 1000) (w : List (List Bool)) (r i : Nat) (all : List Bool) (q B : Bool) (hB : B = true ↔ all.getD i false = true ∨ (i : Int) ∈ bl)
  (hnext : Ev (fun n => truantlaw10_DomFronts.l5 n bl w all (r : Int) (i : Int) B 0 a0 l1 a2 l3 l4 l) q) :
  ∀ (d k : Nat) (c : Bool), bl.length - k = d → k ≤ bl.length → (c = true ↔ all.getD i false = true ∨ (i : Int) ∈ bl.take k) → Ev (fun n => truantlaw10_DomFronts.l4 n bl w all (r : Int) (i : Int) c (k : Int) a0 l1 a2 l3 l4 l) q := by
 intro d
 induction d with
 | zero =>
  intro k c hd hk hc
  rw [List.take_of_length_le (by omega)] at hc
  have e : c = B := by rw [Bool.eq_iff_iff, hc, hB]
  subst e
  exact Ev.step (fun k => rfl) (Ev.neg (by omega) hnext)
 | succ d ih =>
  intro k c hd hk hc
  have hlt : k < bl.length := by omega
  have c1 : (k : Int) < (bl.length : Int) := by omega
  have c2 : k ≤ 100000 := by omega
  have htk := List.take_succ_eq_append_getElem hlt
  have hrd : rd bl (k : Int) = bl[k] := by unfold rd; rw [Int.toNat_natCast, getD_at _ _ hlt]
  refine Ev.step (fun k => rfl) (Ev.pos c1 ?_)
  rw [wk_ k c2, hrd]
  cases c with
  | true => exact Ev.pos rfl (ih (k + 1) true (by omega) (by omega) ⟨fun _ => by
    rcases hc.mp rfl with h | h
    ·exact .inl h
    ·exact .inr (by rw [htk]; exact List.mem_append_left _ h), fun _ => rfl⟩)
  | false =>
   have hn : ¬ (all.getD i false = true ∨ (i : Int) ∈ bl.take k) := fun h => by have := hc.mpr h; cases this
   refine Ev.neg (by simp) (Ev.pos (Int.natCast_nonneg _) (ih (k + 1) _ (by omega) (by omega) ?_))
   rw [htk, List.mem_append, List.mem_singleton, beq_iff_eq]
   constructor
   ·exact fun h => .inr (.inr h.symm)
   ·rintro (h | h | h)
    ·exact absurd (.inl h) hn
    ·exact absurd (.inr h) hn
    ·exact h.symm
theorem fr_l3 (bl : List Int) (hbl : bl.length ≤ 1000) (w : List (List Bool)) (hl : w.length ≤ 1000) (hwl : ∀ i : Nat, i < w.length → (rd_L7 w (i : Int)).length = w.length) (r : Nat) (hr : r ≤ 1001) (all : List Bool) (ha : all.length = w.length) (q : Bool)
  (hnext : Ev (fun n => truantlaw10_DomFronts.l2 n bl w (rnd (fun i => rd_L7 w (i : Int)) bl w.length all w.length) ((r + 1 : Nat) : Int) a0 l1 a2 l3 l4 l) q) :
  ∀ (d i : Nat), w.length - i = d → i ≤ w.length → Ev (fun n => truantlaw10_DomFronts.l3 n bl w (rnd (fun i => rd_L7 w (i : Int)) bl w.length all i) (r : Int) (i : Int) a0 l1 a2 l3 l4 l) q := by
 intro d
 induction d with
 | zero =>
  intro i hd hi
  have e : i = w.length := by omega
  have c2 : r ≤ 100000 := by omega
  subst e
  refine Ev.step (fun k => rfl) (Ev.neg (Int.lt_irrefl _) ?_)
  rw [wk_ r c2]
  exact hnext
 | succ d ih =>
  intro i hd hi
  have hlt : i < w.length := by omega
  have h7 := ih (i + 1) (by omega) (by omega)
  have c1 : (i : Int) < (w.length : Int) := by omega
  have c2 : i ≤ 100000 := by omega
  have hrl := rnd_len (W := fun i => rd_L7 w (i : Int)) (bl := bl) ha i
  have c3 : (i : Int) < ((rnd (fun i => rd_L7 w (i : Int)) bl w.length all i).length : Int) := by rw [hrl]; exact c1
  refine Ev.step (fun k => rfl) (Ev.pos c1 (Ev.pos (Int.natCast_nonneg _) (Ev.pos c3 ?_)))
  rw [getD_nat]
  have e : rnd (fun i => rd_L7 w (i : Int)) bl w.length all (i + 1) = if (rnd (fun i => rd_L7 w (i : Int)) bl w.length all i).getD i false = true ∨ (i : Int) ∈ bl then orTo (rd_L7 w (i : Int)) (rnd (fun i => rd_L7 w (i : Int)) bl w.length all i) w.length else rnd (fun i => rd_L7 w (i : Int)) bl w.length all i := rfl
  rw [e] at h7
  have key : ∀ B : Bool, (B = true ↔ (rnd (fun i => rd_L7 w (i : Int)) bl w.length all i).getD i false = true ∨ (i : Int) ∈ bl) → Ev (fun n => truantlaw10_DomFronts.l5 n bl w (rnd (fun i => rd_L7 w (i : Int)) bl w.length all i) (r : Int) (i : Int) B 0 a0 l1 a2 l3 l4 l) q := fun B hB => by
   cases B with
   | true =>
    rw [if_pos (hB.mp rfl)] at h7
    exact fr_l5 a0 l1 a2 l3 l4 l bl w r i hlt hl (hwl i hlt) _ hrl q h7 _ 0 rfl (Nat.zero_le _)
   | false =>
    rw [if_neg (fun h => by have := hB.mpr h; cases this)] at h7
    refine Ev.step (fun k => rfl) (Ev.neg (by simp) ?_)
    rw [wk_ i c2]
    exact h7
  have hk := key (decB ((rnd (fun i => rd_L7 w (i : Int)) bl w.length all i).getD i false = true ∨ (i : Int) ∈ bl)) ⟨fun h => Classical.byContradiction (fun k => by rw [decB_false k] at h; cases h), fun h => decB_true h⟩
  exact fr_l4 a0 l1 a2 l3 l4 l bl hbl w r i _ q _ ⟨fun h => Classical.byContradiction (fun k => by rw [decB_false k] at h; cases h), fun h => decB_true h⟩ hk _ 0 _ rfl (Nat.zero_le _) (by simp)
theorem fr_l2 (bl : List Int) (hbl : bl.length ≤ 1000) (w : List (List Bool)) (hl : w.length ≤ 1000) (hwl : ∀ i : Nat, i < w.length → (rd_L7 w (i : Int)).length = w.length) (E : Int → Int → Prop) (hW : ∀ b x : Nat, b < w.length → x < w.length → ((rd_L7 w (b : Int)).getD x false = true ↔ E b x))
  (s : List Int) (hs : dom_Fronts.f a0 l1 a2 l3 l4 l bl = some s)
  (hend : ∀ all : List Bool, all.length = w.length → Shut (fun i => rd_L7 w (i : Int)) bl w.length all → (∀ x : Nat, all.getD x false = true → Fnd bl E x) → Ev (fun n => truantlaw10_DomFronts.l6 n all s 0 0) true) :
  ∀ (d r : Nat) (all : List Bool), w.length + 1 - r = d → r ≤ w.length + 1 → all.length = w.length → (∀ x : Nat, all.getD x false = true → Fnd bl E x) → (Shut (fun i => rd_L7 w (i : Int)) bl w.length all ∨ unseen all + r ≤ w.length) → Ev (fun n => truantlaw10_DomFronts.l2 n bl w all (r : Int) a0 l1 a2 l3 l4 l) true := by
 intro d
 induction d with
 | zero =>
  intro r all hd hr ha hsd hc
  have hsh : Shut (fun i => rd_L7 w (i : Int)) bl w.length all := hc.resolve_right (by omega)
  exact Ev.step (fun k => rfl) (Ev.neg (by omega) (Ev.one hs (hend all ha hsh hsd)))
 | succ d ih =>
  intro r all hd hr ha hsd hc
  have hrl := rnd_len (W := fun i => rd_L7 w (i : Int)) (bl := bl) ha w.length
  have h7 := ih (r + 1) (rnd (fun i => rd_L7 w (i : Int)) bl w.length all w.length) (by omega) (by omega) hrl (rnd_sound ha hW hsd w.length (Nat.le_refl _)) (by
   rcases hc with hc | hc
   ·rw [rnd_still ha hc w.length (Nat.le_refl _)]; exact .inl hc
   ·rcases rnd_step (W := fun i => rd_L7 w (i : Int)) (bl := bl) ha with ⟨h1, h2⟩ | h
    ·rw [h2]; exact .inl h1
    ·right; omega)
  exact Ev.step (fun k => rfl) (Ev.pos (by omega) (fr_l3 a0 l1 a2 l3 l4 l bl hbl w hl hwl r (by omega) all ha true h7 _ 0 rfl (Nat.zero_le _)))
end
theorem nodup_len : ∀ {a b : List Int}, a.Nodup → (∀ x ∈ a, x ∈ b) → a.length ≤ b.length
 | [], _, _, _ => Nat.zero_le _
 | x :: a, b, h, hs => by
  rw [List.nodup_cons] at h
  have hx := hs x List.mem_cons_self
  have h2 := nodup_len (b := b.erase x) h.2 (fun y hy => (List.mem_erase_of_ne (fun e => h.1 (by rw [← e]; exact hy))).mpr (hs y (List.mem_cons_of_mem _ hy)))
  rw [List.length_erase_of_mem hx] at h2
  have := List.length_pos_of_mem hx
  rw [List.length_cons]; omega
theorem small_len {a : List Int} {n : Nat} (h : a.Nodup) (hs : ∀ x ∈ a, 0 ≤ x ∧ x < (n : Int)) : a.length ≤ n := by
 have := nodup_len (b := (List.range n).map fun i : Nat => (i : Int)) h (fun x hx => by
  have := hs x hx
  exact List.mem_map.mpr ⟨x.toNat, List.mem_range.mpr (by omega), by omega⟩)
 simpa using this
/-- What a row adds. -/
theorem fold_x (n : Nat) (hn : n ≤ 1000) : ∀ (xs seen o todo : List Int), (∀ x ∈ xs, 0 ≤ x ∧ x < (n : Int)) → (∀ x, x ∈ seen ↔ x ∈ o) → seen.length = o.length → o.Nodup → (∀ x ∈ o, 0 ≤ x ∧ x < (n : Int)) → todo.length + n ≤ o.length + 100000 →
  ∃ seen' d, xs.foldlM stepX (seen, o, todo) = some (seen', o ++ d, todo ++ d) ∧ (∀ x, x ∈ seen' ↔ x ∈ o ++ d) ∧ seen'.length = (o ++ d).length ∧ (o ++ d).Nodup ∧ (∀ x ∈ d, x ∈ xs) ∧ (∀ x ∈ xs, x ∈ o ++ d)
 | [], seen, o, todo, _, hs, hsl, hnd, _, _ => ⟨seen, [], by simp, by simpa using hs, by simpa using hsl, by simpa using hnd, fun x hx => (by cases hx), fun x hx => (by cases hx)⟩
 | x :: xs, seen, o, todo, hx, hs, hsl, hnd, ho, ht => by
  obtain ⟨x0, x1⟩ := hx x List.mem_cons_self
  have hol := small_len hnd ho
  have hc : 0 ≤ x ∧ x < 1000000 ∧ seen.length < 1000000 ∧ o.length < 1000000 ∧ todo.length < 1000000 := by omega
  by_cases hm : x ∈ o
  ·obtain ⟨seen', d, q1, q2, q3, q4, q5, q6⟩ := fold_x n hn xs seen o todo (fun y hy => hx y (List.mem_cons_of_mem _ hy)) hs hsl hnd ho ht
   refine ⟨seen', d, ?_, q2, q3, q4, fun y hy => List.mem_cons_of_mem _ (q5 y hy), fun y hy => ?_⟩
   ·rw [List.foldlM_cons]
    unfold stepX at q1 ⊢
    simp only
    rw [if_pos hc, if_pos ((hs x).mpr hm)]
    exact q1
   ·rcases List.mem_cons.mp hy with rfl | hy
    ·exact List.mem_append_left _ hm
    ·exact q6 y hy
  ·have hnd2 : (o ++ [x]).Nodup := by
    rw [List.nodup_append]
    refine ⟨hnd, by simp, fun a ha b hb e => ?_⟩
    rw [List.mem_singleton] at hb
    subst hb e
    exact hm ha
   obtain ⟨seen', d, q1, q2, q3, q4, q5, q6⟩ := fold_x n hn xs (x :: seen) (o ++ [x]) (todo ++ [x]) (fun y hy => hx y (List.mem_cons_of_mem _ hy)) (fun y => by rw [List.mem_cons, List.mem_append, List.mem_singleton, hs, or_comm]) (by simp [hsl]) hnd2 (fun y hy => by
    rcases List.mem_append.mp hy with hy | hy
    ·exact ho y hy
    ·rw [List.mem_singleton] at hy; subst hy; exact ⟨x0, x1⟩) (by rw [List.length_append, List.length_append, List.length_singleton]; omega)
   rw [List.append_assoc, List.append_assoc] at q1
   rw [List.append_assoc] at q3 q4
   refine ⟨seen', x :: d, ?_, fun y => by rw [q2, List.append_assoc]; rfl, q3, q4, fun y hy => ?_, fun y hy => ?_⟩
   ·rw [List.foldlM_cons]
    unfold stepX at q1 ⊢
    simp only
    rw [if_pos hc, if_neg (fun h => hm ((hs x).mp h))]
    exact q1
   ·rcases List.mem_cons.mp hy with rfl | hy
    ·exact List.mem_cons_self
    ·exact List.mem_cons_of_mem _ (q5 y hy)
   ·rcases List.mem_cons.mp hy with rfl | hy
    ·simp
    ·have := q6 y hy
     rw [List.append_assoc] at this
     exact this
/-- The walk over all that is found. -/
theorem loopF_ok (front : List (List Int)) (n : Nat) (hfl : front.length = n) (hn : n ≤ 1000) (hF : ∀ b : Int, 0 ≤ b → b < (n : Int) → ∀ x ∈ rowOf front b, 0 ≤ x ∧ x < (n : Int)) (bl : List Int) :
  ∀ (k : Nat) (seen o todo : List Int), (∀ x, x ∈ seen ↔ x ∈ o) → seen.length = o.length → o.Nodup → (∀ x ∈ o, Fnd bl (fun b x => 0 ≤ b ∧ b < (n : Int) ∧ x ∈ rowOf front b) x) → (∀ b ∈ todo, b ∈ bl ∨ b ∈ o) → (∀ b, b ∈ bl ∨ b ∈ o → b ∈ todo ∨ ∀ x, (0 ≤ b ∧ b < (n : Int) ∧ x ∈ rowOf front b) → x ∈ o) → todo.length + n ≤ o.length + 100000 → todo.length + (sumL front - o.length) + 1 ≤ k →
   ∃ out, loopF front k (seen, o, todo) = some out ∧ out.Nodup ∧ (∀ x ∈ out, Fnd bl (fun b x => 0 ≤ b ∧ b < (n : Int) ∧ x ∈ rowOf front b) x) ∧ ∀ b, b ∈ bl ∨ b ∈ out → ∀ x, (0 ≤ b ∧ b < (n : Int) ∧ x ∈ rowOf front b) → x ∈ out := by
 have hin : ∀ x, Fnd bl (fun b x => 0 ≤ b ∧ b < (n : Int) ∧ x ∈ rowOf front b) x → ∃ b, 0 ≤ b ∧ b < (n : Int) ∧ x ∈ rowOf front b := fun x h => by
  cases h with
  | base _ e => exact ⟨_, e⟩
  | step _ e => exact ⟨_, e⟩
 have hsum : ∀ o : List Int, o.Nodup → (∀ x ∈ o, Fnd bl (fun b x => 0 ≤ b ∧ b < (n : Int) ∧ x ∈ rowOf front b) x) → o.length ≤ sumL front := fun o h1 h2 => by
  have := nodup_len (b := front.flatten) h1 (fun x hx => by
   obtain ⟨b, b0, b1, hb⟩ := hin x (h2 x hx)
   unfold rowOf at hb
   rw [getD_at _ _ (by omega)] at hb
   exact List.mem_flatten.mpr ⟨_, List.getElem_mem _, hb⟩)
  rw [List.length_flatten] at this
  exact this
 intro k
 induction k with
 | zero => intro seen o todo _ _ _ _ _ _ _ h; omega
 | succ k ih =>
  intro seen o todo h1 h2 h3 h4 h5 h6 h7 h8
  have hos := hsum o h3 h4
  have hor : ∀ x ∈ o, 0 ≤ x ∧ x < (n : Int) := fun x hx => by obtain ⟨b, b0, b1, hb⟩ := hin x (h4 x hx); exact hF b b0 b1 x hb
  rw [loopF]
  simp only
  by_cases hz : todo.length = 0
  ·rw [if_pos hz]
   refine ⟨o, rfl, h3, h4, fun b hb => (h6 b hb).resolve_left (fun h => ?_)⟩
   rw [List.eq_nil_of_length_eq_zero hz] at h
   cases h
  ·rw [if_neg hz]
   have hlt : todo.length - 1 < todo.length := by omega
   obtain ⟨b, hb⟩ : ∃ b, b = rd todo ((todo.length - 1 : Nat) : Int) := ⟨_, rfl⟩
   have hbe : b = todo[todo.length - 1] := by rw [hb]; unfold rd; rw [Int.toNat_natCast, getD_at _ _ hlt]
   obtain ⟨rest, hrest⟩ : ∃ rest, rest = todo.take (todo.length - 1) := ⟨_, rfl⟩
   have htodo : todo = rest ++ [b] := by
    have := List.take_succ_eq_append_getElem hlt
    rw [List.take_of_length_le (by omega), ← hbe, ← hrest] at this
    exact this
   rw [← hb, ← hrest]
   have hrl : todo.length = rest.length + 1 := by rw [htodo]; simp
   have hbb : b ∈ bl ∨ b ∈ o := h5 b (by rw [htodo]; simp)
   by_cases hout : b < 0 ∨ (front.length : Int) ≤ b
   ·rw [if_pos hout]
    refine ih seen o rest h1 h2 h3 h4 (fun y hy => h5 y (by rw [htodo]; exact List.mem_append_left _ hy)) (fun y hy => ?_) (by omega) (by omega)
    rcases h6 y hy with h | h
    ·rw [htodo] at h
     rcases List.mem_append.mp h with h | h
     ·exact .inl h
     ·rw [List.mem_singleton] at h
      subst h
      exact .inr (fun x hx => by omega)
    ·exact .inr h
   ·rw [if_neg hout]
    have b0 : 0 ≤ b := by omega
    have b1 : b < (n : Int) := by omega
    obtain ⟨seen', d, q1, q2, q3, q4, q5, q6⟩ := fold_x n hn (rowOf front b) seen o rest (hF b b0 b1) h1 h2 h3 hor (by omega)
    rw [q1, Option.bind_some]
    have hfd : ∀ x ∈ o ++ d, Fnd bl (fun b x => 0 ≤ b ∧ b < (n : Int) ∧ x ∈ rowOf front b) x := fun x hx => by
     rcases List.mem_append.mp hx with hx | hx
     ·exact h4 x hx
     ·have e : (fun b x => 0 ≤ b ∧ b < (n : Int) ∧ x ∈ rowOf front b) b x := ⟨b0, b1, q5 x hx⟩
      rcases hbb with h | h
      ·exact .base h e
      ·exact .step (h4 b h) e
    have hos2 := hsum (o ++ d) q4 hfd
    rw [List.length_append] at hos2
    refine ih seen' (o ++ d) (rest ++ d) q2 q3 q4 hfd (fun y hy => ?_) (fun y hy => ?_) (by rw [List.length_append, List.length_append]; omega) (by rw [List.length_append, List.length_append]; omega)
    ·rcases List.mem_append.mp hy with hy | hy
     ·exact (h5 y (by rw [htodo]; exact List.mem_append_left _ hy)).imp id (fun h => List.mem_append_left _ h)
     ·exact .inr (List.mem_append_right _ hy)
    ·by_cases hyd : y ∈ d
     ·exact .inl (List.mem_append_right _ hyd)
     ·have hy2 : y ∈ bl ∨ y ∈ o := hy.imp id (fun h => (List.mem_append.mp h).resolve_right hyd)
      rcases h6 y hy2 with h | h
      ·rw [htodo] at h
       rcases List.mem_append.mp h with h | h
       ·exact .inl (List.mem_append_left _ h)
       ·rw [List.mem_singleton] at h
        subst h
        exact .inr (fun x hx => q6 x hx.2.2)
      ·exact .inr (fun x hx => List.mem_append_left _ (h x hx))
section
variable (a0 : ByteArray) (l1 : List ByteArray) (a2 : ByteArray) (l3 : List ByteArray) (l4 : List S58) (l : List S40)
theorem fronts_all (bl : List Int) (hbl : bl.length ≤ 20) (front : List (List Int)) (w : List (List Bool)) (hl : w.length ≤ 30) (hfl : front.length = w.length) (hf : dom_Front.f a0 l1 a2 l3 l4 l = some front) (P : Nat → Nat → Bool) (hu : ∀ i : Nat, i < w.length → rd_L2 front (i : Int) = ascTo (P i) w.length)
  (hwl : ∀ i : Nat, i < w.length → (rd_L7 w (i : Int)).length = w.length) (hw : ∀ i x : Nat, i < w.length → x < w.length → (rd_L7 w (i : Int)).getD x false = P i x) : Ev (fun n => truantlaw10_DomFronts.l0 n bl front w 0 a0 l1 a2 l3 l4 l) true := by
 have hrow : ∀ b : Int, 0 ≤ b → b < (w.length : Int) → ∀ x, x ∈ rowOf front b ↔ 0 ≤ x ∧ x < (w.length : Int) ∧ P b.toNat x.toNat = true := fun b b0 b1 x => by
  have h := hu b.toNat (by omega)
  rw [show ((b.toNat : Nat) : Int) = b by omega] at h
  have e : rowOf front b = rd_L2 front b := rfl
  rw [e, h, asc_mem]
 obtain ⟨out, o1, o2, o3, o4⟩ := loopF_ok front w.length hfl (by omega) (fun b b0 b1 x hx => by have := (hrow b b0 b1 x).mp hx; exact ⟨this.1, this.2.1⟩) bl (bl.length + sumL front + 1) [] [] bl (fun x => Iff.rfl) rfl List.nodup_nil (fun x hx => by cases hx) (fun b hb => .inl hb) (fun b hb => .inl (hb.resolve_right (fun h => by cases h))) (by simp; omega) (by simp)
 have hor : ∀ x ∈ out, 0 ≤ x ∧ x < (w.length : Int) := fun x hx => by
  cases o3 x hx with
  | base _ e => have := (hrow _ e.1 e.2.1 x).mp e.2.2; exact ⟨this.1, this.2.1⟩
  | step _ e => have := (hrow _ e.1 e.2.1 x).mp e.2.2; exact ⟨this.1, this.2.1⟩
 have hol := small_len o2 hor
 have hmem : ∀ x, x ∈ out ↔ Fnd bl (fun b x => 0 ≤ b ∧ b < (w.length : Int) ∧ x ∈ rowOf front b) x := fun x => ⟨o3 x, fun h => by
  induction h with
  | base h e => exact o4 _ (.inl h) _ e
  | step _ e ih => exact o4 _ (.inr ih) _ e⟩
 have hsort : (out.mergeSort fun x y => decide (x ≤ y)) = ascTo (fun x => decB (Fnd bl (fun b x => 0 ≤ b ∧ b < (w.length : Int) ∧ x ∈ rowOf front b) (x : Int))) w.length := by
  refine asc_eq ?_ (asc_up _ _) (fun x => ?_)
  ·have h1 := sort_le out
   have h2 : (out.mergeSort fun x y => decide (x ≤ y)).Nodup := (List.mergeSort_perm out _).nodup_iff.mpr o2
   refine List.pairwise_iff_getElem.mpr (fun i j hi hj hij => ?_)
   have q1 := List.pairwise_iff_getElem.mp h1 i j hi hj hij
   have q2 := List.pairwise_iff_getElem.mp h2 i j hi hj hij
   omega
  ·rw [List.mem_mergeSort, asc_mem, hmem]
   constructor
   ·intro h
    have hx := hor x ((hmem x).mpr h)
    exact ⟨hx.1, hx.2, decB_true (by rw [show ((x.toNat : Nat) : Int) = x by omega]; exact h)⟩
   ·rintro ⟨x0, x1, h⟩
    rw [show ((x.toNat : Nat) : Int) = x by omega] at h
    exact Classical.byContradiction (fun k => by rw [decB_false k] at h; cases h)
 have hfr : dom_Fronts.f a0 l1 a2 l3 l4 l bl = some (ascTo (fun x => decB (Fnd bl (fun b x => 0 ≤ b ∧ b < (w.length : Int) ∧ x ∈ rowOf front b) (x : Int))) w.length) := by
  unfold dom_Fronts.f
  rw [hf, Option.bind_some, if_pos (by omega), o1, Option.bind_some, if_pos (by omega), hsort]
 have hW : ∀ b x : Nat, b < w.length → x < w.length → ((rd_L7 w (b : Int)).getD x false = true ↔ (fun b x : Int => 0 ≤ b ∧ b < (w.length : Int) ∧ x ∈ rowOf front b) b x) := fun b x hb hx => by
  rw [hw b x hb hx]
  show _ ↔ (0 ≤ (b : Int) ∧ (b : Int) < (w.length : Int) ∧ (x : Int) ∈ rowOf front b)
  rw [hrow b (by omega) (by omega), Int.toNat_natCast, Int.toNat_natCast]
  exact ⟨fun h => ⟨by omega, by omega, by omega, by omega, h⟩, fun h => h.2.2.2.2⟩
 have hrounds : Ev (fun n => truantlaw10_DomFronts.l2 n bl w (List.replicate w.length false) 0 a0 l1 a2 l3 l4 l) true := by
  refine fr_l2 a0 l1 a2 l3 l4 l bl (by omega) w (by omega) hwl (fun b x : Int => 0 ≤ b ∧ b < (w.length : Int) ∧ x ∈ rowOf front b) hW _ hfr (fun all ha hsh hsd => ?_) _ 0 _ rfl (Nat.zero_le _) List.length_replicate (fun x hx => ?_) (.inr (by rw [unseen_none]; omega))
  ·have hall : ∀ x : Nat, x < all.length → all.getD x false = decB (Fnd bl (fun b x => 0 ≤ b ∧ b < (w.length : Int) ∧ x ∈ rowOf front b) (x : Int)) := fun x hx => by
    have key : ∀ y : Int, Fnd bl (fun b x => 0 ≤ b ∧ b < (w.length : Int) ∧ x ∈ rowOf front b) y → all.getD y.toNat false = true := fun y h => by
     induction h with
     | @base b y h e =>
      have hy := (hrow b e.1 e.2.1 y).mp e.2.2
      refine hsh b.toNat y.toNat (by omega) (by omega) (.inr (by rw [show ((b.toNat : Nat) : Int) = b by omega]; exact h)) ?_
      rw [hw _ _ (by omega) (by omega)]; exact hy.2.2
     | @step b y h e ih =>
      have hy := (hrow b e.1 e.2.1 y).mp e.2.2
      refine hsh b.toNat y.toNat (by omega) (by omega) (.inl ih) ?_
      rw [hw _ _ (by omega) (by omega)]; exact hy.2.2
    by_cases h : Fnd bl (fun b x => 0 ≤ b ∧ b < (w.length : Int) ∧ x ∈ rowOf front b) (x : Int)
    ·rw [decB_true h]
     have := key _ h
     rwa [Int.toNat_natCast] at this
    ·rw [decB_false h]
     cases hv : all.getD x false with
     | false => rfl
     | true => exact absurd (hsd x hv) h
   have := fr_l6 _ all hall (by omega) _ 0 rfl (Nat.zero_le _)
   rw [ha] at this
   exact this
  ·exfalso
   rw [List.getD_eq_getElem?_getD, List.getElem?_replicate] at hx
   split at hx <;> simp at hx
 have key : ∀ (d i : Nat), w.length - i = d → i ≤ w.length → Ev (fun n => truantlaw10_DomFronts.l0 n bl front w (i : Int) a0 l1 a2 l3 l4 l) true := by
  intro d
  induction d with
  | zero =>
   intro i hd hi
   refine Ev.step (fun k => rfl) (Ev.neg (by omega) (Ev.pos (Int.natCast_nonneg _) (Ev.pos (by omega) ?_)))
   rw [Int.toNat_natCast]
   exact hrounds
  | succ d ih =>
   intro i hd hi
   exact Ev.step (fun k => rfl) (Ev.pos (by omega) (fr_l1 a0 l1 a2 l3 l4 l bl front w i (by omega) hfl (by omega) (P i) (hu i (by omega)) (hwl i (by omega)) (fun x hx => hw i x (by omega) hx) (ih (i + 1) (by omega) (by omega)) _ 0 rfl (Nat.zero_le _)))
 exact key _ 0 rfl (Nat.zero_le _)
end
theorem DomFronts_pure : DomFronts.Pure := by
 intro a0 l1 a2 l3 l4 l bl hwf hwb
 have hev : Ev (fun k => truantlaw10_DomFronts.f k a0 l1 a2 l3 l4 l bl) true := by
  unfold truantlaw10_DomFronts.f
  refine Ev.bind awake_true (Ev.pos rfl ?_)
  refine Ev.one (show truantlaw10_wide.f a0 l1 a2 l3 l4 l = some (decide ((l.length : Int) > 30)) from rfl) ?_
  by_cases hw : (l.length : Int) > 30
  ·exact Ev.pos (decide_eq_true hw) (Ev.now _)
  ·refine Ev.neg (by rw [decide_eq_false hw]; simp) ?_
   by_cases hb : (bl.length : Int) > 20
   ·exact Ev.pos hb (Ev.now _)
   ·refine Ev.neg hb ?_
    have hl : l.length ≤ 30 := by omega
    have hbl : bl.length ≤ 20 := by omega
    have hRF : truantref10_Front.f a0 l1 a2 l3 l4 l = some ((List.range l.length).map (frRow l)) := if_pos (by omega)
    have hwlen : ((List.range l.length).map (frRow l)).length = l.length := by simp
    by_cases hn : 1 ≤ l.length
    ·obtain ⟨o, at_, nr, s, out, D, hg, hR, hF, hS, hfold⟩ := dm_all a0 l1 a2 l3 l4 l hn hl
     have hs : reachL l = s := reachL_is D hR
     refine Ev.one hF (Ev.one hRF (Ev.pos ?_ ?_))
     ·rw [hwlen, List.length_map, hS.len]
     ·have hfull := (blocks_full D.od D.gd (fuelD l.length) (by unfold fuelD; omega) l.length 0 (List.replicate l.length []) out (by omega) List.length_replicate (by rw [List.drop_zero]; exact hfold)).2
      refine fronts_all a0 l1 a2 l3 l4 l bl hbl (out.map sortC) ((List.range l.length).map (frRow l)) (by rw [hwlen]; exact hl) (by rw [hwlen, List.length_map, hS.len]) hF (fun i x => decB (Fr l.length (aheadRows l) at_ i x)) (fun i hi => ?_) (fun i hi => ?_) (fun i x hi hx => ?_)
      ·rw [hwlen] at hi ⊢
       have e : rd_L2 (out.map sortC) (i : Int) = sortC (rowOf out i) := by
        unfold rd_L2 rowOf
        rw [Int.toNat_natCast, getD_at _ _ (by rw [List.length_map, hS.len]; exact hi), getD_at _ _ (by rw [hS.len]; exact hi), List.getElem_map]
       rw [e]
       refine sortC_asc _ _ _ (fun x => ⟨fun hx => ?_, fun hx => ?_⟩)
       ·obtain ⟨⟨x0, x1⟩, hfr⟩ := hS.why (i : Int) (by omega) (by omega) x hx
        exact ⟨x0, x1, decB_true (by rw [show ((x.toNat : Nat) : Int) = x by omega]; exact hfr)⟩
       ·obtain ⟨x0, x1, h⟩ := hx
        have hfr : Fr l.length (aheadRows l) at_ i (x.toNat : Int) := Classical.byContradiction (fun k => by rw [decB_false k] at h; cases h)
        have := hfull x.toNat (Nat.zero_le _) (by omega) (i : Int) hfr
        rwa [show ((x.toNat : Nat) : Int) = x by omega] at this
      ·rw [hwlen] at hi ⊢
       unfold rd_L7
       rw [Int.toNat_natCast, getD_at _ _ (by rw [hwlen]; exact hi)]
       simp only [List.getElem_map, List.getElem_range]
       exact frTo_len _ _ _ _
      ·rw [hwlen] at hi hx
       have e : rd_L7 ((List.range l.length).map (frRow l)) (i : Int) = frRow l i := by
        unfold rd_L7
        rw [Int.toNat_natCast, getD_at _ _ (by rw [hwlen]; exact hi)]
        simp only [List.getElem_map, List.getElem_range]
       rw [e]
       exact frRow_is D hs (by omega) (by omega) hi hx
    ·obtain rfl : l = [] := List.eq_nil_of_length_eq_zero (by omega)
     have hF : dom_Front.f a0 l1 a2 l3 l4 [] = some [] := rfl
     refine Ev.one hF (Ev.one hRF (Ev.pos rfl ?_))
     exact fronts_all a0 l1 a2 l3 l4 [] bl hbl [] _ (by simp) rfl hF (fun _ _ => false) (fun i hi => by simp at hi) (fun i hi => by simp at hi) (fun i x hi => by simp at hi)
 exact hev.rounds
end Go.Proofs.Ytclhjalgflebfaa.Q

