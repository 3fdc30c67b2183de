/- What the row of DomChain rests on, part 3: contracts of the functions that it reaches, and the plain law. -/
import Derived.Test.YtclhjalgflebfaaJDomChain2
/- How an argument of a type reads: out of the form's reading comes the value that the printed walks take. -/
namespace Go.Proofs.Ytclhjalgflebfaa.Q
open Go.RowKit Go.Proofs.YtclhjalgflebfaaW.PrintWords Go.Proofs.YtclhjalgflebfaaW.PrintLast Go.Proofs.YtclhjalgflebfaaW.PrintMore
set_option linter.unusedVariables false
set_option linter.unusedSimpArgs false
/-- What reads at type t reads as a value of kind K, of which Q holds. -/
structure Opens {α : Type} (P : Program) (t : TypeId) (K : Kd α) (Q : α → Prop) : Prop where
 out : ∀ {H : Type} {enc : TypeId × Value → H} {W : World} {base : Nat} {sp : Nat → Bool} {held : Bool} {fuel : Nat} {cs : List Value} {x : DataW H × List MemPlace},
  (∀ n ∈ x.1.weights P t, n ≤ reachBytes) → DataW.trod enc P W base sp held fuel t cs = some x → ∃ y, K.K W y cs ∧ Q y
section
variable {P : Program}
theorem opens_string {t : TypeId} (ht : P.underlying t = some .string) : Opens P t Kd.string (fun s => s.size ≤ 140737488351232) := by
 constructor
 intro H enc W base sp held fuel cs x hw h
 obtain ⟨s, rfl, rfl, hs⟩ : ∃ s : ByteArray, cs = [.string s] ∧ x = (.lit (.string s.data.toList), []) ∧ s.size ≤ maxLen := by
  cases fuel with
  | zero => simp [DataW.trod] at h
  | succ n =>
   unfold DataW.trod at h
   rw [ht] at h
   split at h <;> simp_all
 refine ⟨s, rfl, ?_⟩
 have := hw s.data.toList.length (by simp [DataW.weights])
 rw [Array.length_toList] at this
 exact this
theorem opens_int {t : TypeId} {q : IntKind} (ht : P.underlying t = some (.int q)) : Opens P t (Kd.int q) (fun n => (Lit.int q n).wf = true) := by
 constructor
 intro H enc W base sp held fuel cs x hw h
 obtain ⟨n, rfl, hs⟩ : ∃ n : Int, cs = [.int q n] ∧ (Lit.int q n).wf = true := by
  cases fuel with
  | zero => simp [DataW.trod] at h
  | succ n =>
   unfold DataW.trod at h
   rw [ht] at h
   split at h <;> simp_all
 exact ⟨n, rfl, hs⟩
theorem weights_all {H : Type} {e : TypeId} : ∀ {ds : List (DataW H)} {d : DataW H}, d ∈ ds → ∀ n ∈ d.weights P e, n ∈ DataW.weightsAll P e ds
 | d0 :: ds, d, hd, n, hn => by
  simp only [DataW.weightsAll, List.mem_append]
  rcases List.mem_cons.mp hd with rfl | h
  ·exact .inl hn
  ·exact .inr (weights_all h n hn)
theorem choose_list {α : Type} {p : Nat → α → Prop} : ∀ {n : Nat}, (∀ i, i < n → ∃ y, p i y) → ∃ ys : List α, ys.length = n ∧ ∀ i y, ys[i]? = some y → p i y
 | 0, _ => ⟨[], rfl, fun i y h => by simp at h⟩
 | n + 1, h => by
  obtain ⟨ys, hl, hy⟩ := choose_list (n := n) (fun i hi => h i (by omega))
  obtain ⟨y, hp⟩ := h n (by omega)
  refine ⟨ys ++ [y], by simp [hl], fun i z hz => ?_⟩
  by_cases hi : i < n
  ·rw [List.getElem?_append_left (by omega)] at hz
   exact hy i z hz
  ·have := (List.getElem?_eq_some_iff.mp hz).1
   simp at this
   have e : i = n := by omega
   subst e
   rw [List.getElem?_append_right (by omega)] at hz
   simp [hl] at hz
   subst hz
   exact hp
theorem opens_slice {α : Type} {t e : TypeId} {K : Kd α} {Q : α → Prop} (he : Opens P e K Q) (ht : P.underlying t = some (.slice e)) (hc : P.cellsOf e = K.sz) (bytes : Nat) (hb : P.bytesOf e = bytes) :
  Opens P t (Kd.slice e K) (fun l => l.length * bytes ≤ 140737488351232 ∧ ∀ x ∈ l, Q x) := by
 constructor
 intro H enc W base sp held fuel cs x hw h
 rcases Deep.open_slice ht h with ⟨rfl, rfl⟩ | ⟨a, len, cap, m, n, D, Pl, rfl, _, hl, hm, hmm, rfl, hel⟩
 ·exact ⟨[], ⟨none, 0, rfl, Nat.le_refl _, Kd.C_nil K W⟩, by simp, by simp⟩
 ·have hlm : len ≤ m := by rw [hmm]; split <;> omega
  have hw' : ∀ i, i < len → ∀ k ∈ (D i).weights P e, k ≤ reachBytes := fun i hi k hk => hw k (by
   simp only [DataW.weights, ht, List.mem_cons, List.mem_append]
   exact .inr (.inl (weights_all (List.mem_map.mpr ⟨i, by simpa using hi, rfl⟩) k hk)))
  obtain ⟨ys, hys, hY⟩ := choose_list (n := len) (p := fun i y => (∃ c, c.length = K.sz ∧ K.K W y c ∧ ∀ j u, c[j]? = some u → W.cell? (a.add (i * K.sz + j)) = some u) ∧ Q y) (fun i hi => by
   obtain ⟨c, h1, h2⟩ := hel i (by omega)
   obtain ⟨y, hy, hq⟩ := he.out (hw' i hi) h2
   obtain ⟨_, h3, h4⟩ := World.cells?_some h1
   rw [hc] at h3 h4
   refine ⟨y, ⟨c, h3, hy, fun j u hu => ?_⟩, hq⟩
   have hj : j < K.sz := by
    have := (List.getElem?_eq_some_iff.mp hu).1
    omega
   have h5 := h4 j hj
   rw [Addr.add_add] at h5
   rw [h5, hu])
  have hlen : len ≤ maxLen := by omega
  refine ⟨ys, ⟨some a, cap, by rw [hys], by omega, rfl, by rw [hys]; unfold maxLen at hlen; omega, fun _ => ⟨a, rfl, fun j p hj => (hY j p hj).1⟩⟩, ?_, ?_⟩
  ·have := hw ((((List.range len).map D).length + ((List.range (m - len)).map fun j => D (len + j)).length) * P.bytesOf e) (by simp [DataW.weights, ht])
   rw [hb] at this
   simp only [List.length_map, List.length_range] at this
   have h2 : len * bytes ≤ (len + (m - len)) * bytes := Nat.mul_le_mul_right _ (by omega)
   rw [hys]
   unfold reachBytes at this
   omega
  ·intro x hx
   obtain ⟨i, hi, rfl⟩ := List.mem_iff_getElem.mp hx
   exact (hY i _ (List.getElem?_eq_getElem hi)).2
/-- The fields from one on. -/
structure OpensF {α : Type} (P : Program) (fs : List Field) (off : Nat) (K : Kd α) (Q : α → Prop) : Prop where
 out : ∀ {H : Type} {enc : TypeId × Value → H} {W : World} {base : Nat} {sp : Nat → Bool} {held : Bool} {fuel : Nat} {cs : List Value} {xs : List (DataW H × List MemPlace)},
  cs.length = off + K.sz → (∀ n ∈ DataW.weightsEach P (fs.map (·.type)) (xs.map (·.1)), n ≤ reachBytes) → (fs.mapM fun f => DataW.trod enc P W base sp held fuel f.type ((cs.drop f.offset).take (P.cellsOf f.type))) = some xs → ∃ y, K.K W y (cs.drop off) ∧ Q y
theorem opensF_last {α : Type} {f : Field} {off t : Nat} {K : Kd α} {Q : α → Prop} (h : Opens P t K Q) (h0 : f.type = t) (hc : P.cellsOf t = K.sz) (ho : f.offset = off) : OpensF P [f] off K Q := by
 constructor
 intro H enc W base sp held fuel cs xs hl hw hm
 subst h0
 simp only [List.mapM_cons, List.mapM_nil, Option.pure_def, Option.bind_eq_bind, Option.bind_some] at hm
 obtain ⟨x, hx, hm⟩ := Option.bind_eq_some_iff.mp hm
 obtain rfl := Option.some.inj hm
 rw [hc, ho, List.take_of_length_le (by rw [List.length_drop]; omega)] at hx
 exact h.out (fun n hn => hw n (by simp [DataW.weightsEach, hn])) hx
theorem opensF_cons {α β : Type} {f : Field} {fs : List Field} {off t : Nat} {K : Kd α} {K1 : Kd β} {Q : α → Prop} {Q1 : β → Prop} (h : Opens P t K Q) (h0 : f.type = t) (hc : P.cellsOf t = K.sz) (ho : f.offset = off) (h1 : OpensF P fs (off + K.sz) K1 Q1) :
  OpensF P (f :: fs) off (Kd.pair K K1) (fun p => Q p.1 ∧ Q1 p.2) := by
 constructor
 intro H enc W base sp held fuel cs xs hl hw hm
 subst h0
 have hl : cs.length = off + (K.sz + K1.sz) := hl
 rw [List.mapM_cons] at hm
 simp only [Option.pure_def, Option.bind_eq_bind] at hm
 obtain ⟨x, hx, hm⟩ := Option.bind_eq_some_iff.mp hm
 obtain ⟨xs', hxs, hm⟩ := Option.bind_eq_some_iff.mp hm
 obtain rfl := Option.some.inj hm
 rw [hc, ho] at hx
 obtain ⟨y, hy, hq⟩ := h.out (fun n hn => hw n (by simp only [List.map_cons, DataW.weightsEach, List.mem_append]; exact .inl hn)) hx
 obtain ⟨z, hz, hq1⟩ := h1.out (by omega) (fun n hn => hw n (by simp only [List.map_cons, DataW.weightsEach, List.mem_append]; exact .inr hn)) hxs
 refine ⟨(y, z), ⟨(cs.drop off).take K.sz, cs.drop (off + K.sz), ?_, hy, hz⟩, hq, hq1⟩
 rw [← List.drop_drop, List.take_append_drop]
theorem opens_struct {α β : Type} {t : TypeId} {fs : Array Field} {K : Kd α} {Q : α → Prop} (ht : P.underlying t = some (.struct fs)) (h : OpensF P fs.toList 0 K Q) (hc : P.cellsOf t = K.sz) (g : β → α) (g' : α → β) (hg : ∀ y, g (g' y) = y) : Opens P t (Kd.iso K g) (fun x => Q (g x)) := by
 constructor
 intro H enc W base sp held fuel cs x hw hm
 cases fuel with
 | zero => simp [DataW.trod] at hm
 | succ n =>
  unfold DataW.trod at hm
  rw [ht] at hm
  simp only at hm
  split at hm
  ·rename_i hl
   obtain ⟨xs, hxs, rfl⟩ := Option.map_eq_some_iff.mp hm
   obtain ⟨y, hy, hq⟩ := h.out (cs := cs) (xs := xs) (by rw [hl, hc]; omega) (fun n hn => hw n (by simp only [DataW.weights, ht]; exact hn)) hxs
   exact ⟨g' y, by show K.K W (g (g' y)) cs; rw [hg]; simpa using hy, by show Q (g (g' y)); rw [hg]; exact hq⟩
  ·cases hm
theorem opens_array2 {α β : Type} {t e : TypeId} {K : Kd α} {Q : α → Prop} {k : Kd β} {WF : β → Prop} (mk : α → α → β) (g : β → α × α) (he : Opens P e K Q) (ht : P.underlying t = some (.array 2 e)) (hsz : K.sz = 1) (hce : P.cellsOf e = 1) (hct : P.cellsOf t = 2) (hk : k = Kd.iso (Kd.pair K K) g) (hg : ∀ x y, g (mk x y) = (x, y)) (hQ : ∀ x y, Q x → Q y → WF (mk x y)) : Opens P t k WF := by
 subst hk
 constructor
 intro H enc W base sp held fuel cs x hw hm
 obtain ⟨xs, m, rfl, rfl, hl, hn, hi⟩ := DataW.trod_array ht hm
 rw [hct] at hl
 have hwx : ∀ d, d ∈ xs.map (·.1) → ∀ n ∈ d.weights P e, n ≤ reachBytes := fun d hd n hn => hw n (by simp only [DataW.weights, ht]; exact weights_all hd n hn)
 obtain ⟨d0, d1, rfl⟩ : ∃ d0 d1, xs = [d0, d1] := by
  match xs, hn with
  | [a, b], _ => exact ⟨a, b, rfl⟩
 obtain ⟨c0, c1, rfl⟩ : ∃ c0 c1, cs = [c0, c1] := by
  match cs, hl with
  | [a, b], _ => exact ⟨a, b, rfl⟩
 have h0 := hi 0 (by omega)
 have h1 := hi 1 (by omega)
 rw [hce] at h0 h1
 obtain ⟨y0, hy0, q0⟩ := he.out (hwx d0.1 (by simp)) (show _ = some d0 from h0)
 obtain ⟨y1, hy1, q1⟩ := he.out (hwx d1.1 (by simp)) (show _ = some d1 from h1)
 refine ⟨mk y0 y1, ?_, hQ _ _ q0 q1⟩
 show (Kd.pair K K).K W (g (mk y0 y1)) [c0, c1]
 rw [hg]
 exact ⟨[c0], [c1], rfl, hy0, hy1⟩
theorem opens_struct' {α β : Type} {t : TypeId} {fs : Array Field} {K : Kd α} {Q : α → Prop} {k : Kd β} {WF : β → Prop} (g' : α → β) (g : β → α) (ht : P.underlying t = some (.struct fs)) (h : OpensF P fs.toList 0 K Q) (hc : P.cellsOf t = K.sz) (hk : k = Kd.iso K g) (hg : ∀ y, g (g' y) = y) (hQ : ∀ x, Q (g x) → WF x) : Opens P t k WF := by
 subst hk
 constructor
 intro H enc W base sp held fuel cs x hw hm
 obtain ⟨y, h1, h2⟩ := (opens_struct ht h hc g g' hg).out hw hm
 exact ⟨y, h1, hQ y h2⟩
end
end Go.Proofs.Ytclhjalgflebfaa.Q

namespace Go.Proofs.Ytclhjalgflebfaa.Q
open Go.RowKit Go.Proofs.YtclhjalgflebfaaW.PrintWords Go.Proofs.YtclhjalgflebfaaW.PrintLast Go.Proofs.YtclhjalgflebfaaW.PrintMore
set_option linter.unusedVariables false
set_option linter.unusedSimpArgs false

def WF58 (x : S58) : Prop := ((fun n : Int => (Lit.int .i64 n).wf = true) x.f0) ∧ ((fun s : ByteArray => s.size ≤ 140737488351232) x.f1) ∧ ((fun l : List Int => l.length * 8 ≤ 140737488351232 ∧ ∀ x ∈ l, (fun n : Int => (Lit.int .i64 n).wf = true) x) x.f2) ∧ ((fun n : Int => (Lit.int .i64 n).wf = true) x.f3) ∧ ((fun s : ByteArray => s.size ≤ 140737488351232) x.f4)
theorem opens58 : Opens Try.prog 58 k58 WF58 :=
 opens_struct' (fun p : (Int) × (ByteArray) × (List Int) × (Int) × (ByteArray) => (⟨p.1, p.2.1, p.2.2.1, p.2.2.2.1, p.2.2.2.2⟩ : S58)) (fun x : S58 => (x.f0, x.f1, x.f2, x.f3, x.f4)) Try.underlying58 (opensF_cons (opens_int Try.underlying3) rfl (by kernel_rfl) rfl (opensF_cons (opens_string Try.underlying9) rfl (by kernel_rfl) rfl (opensF_cons (opens_slice (opens_int Try.underlying3) Try.underlying34 (by kernel_rfl) 8 (by kernel_rfl)) rfl (by kernel_rfl) rfl (opensF_cons (opens_int Try.underlying3) rfl (by kernel_rfl) rfl (opensF_last (opens_string Try.underlying9) rfl (by kernel_rfl) rfl))))) (by kernel_rfl) rfl (fun _ => rfl) (fun _ h => h)
def WF38 (x : S38) : Prop := ((fun n : Int => (Lit.int .i64 n).wf = true) x.f0) ∧ ((fun n : Int => (Lit.int .i64 n).wf = true) x.f1)
theorem opens38 : Opens Try.prog 38 k38 WF38 :=
 opens_array2 (fun x y => (⟨x, y⟩ : S38)) (fun x : S38 => (x.f0, x.f1)) (opens_int Try.underlying3) Try.underlying38 rfl (by kernel_rfl) (by kernel_rfl) rfl (fun _ _ => rfl) (fun _ _ hx hy => ⟨hx, hy⟩)
def WF40 (x : S40) : Prop := ((fun l : List Int => l.length * 8 ≤ 140737488351232 ∧ ∀ x ∈ l, (fun n : Int => (Lit.int .i64 n).wf = true) x) x.f0) ∧ ((fun n : Int => (Lit.int .i64 n).wf = true) x.f1) ∧ ((fun n : Int => (Lit.int .i64 n).wf = true) x.f2) ∧ (WF38 x.f3)
theorem opens40 : Opens Try.prog 40 k40 WF40 :=
 opens_struct' (fun p : (List Int) × (Int) × (Int) × (S38) => (⟨p.1, p.2.1, p.2.2.1, p.2.2.2⟩ : S40)) (fun x : S40 => (x.f0, x.f1, x.f2, x.f3)) Try.underlying40 (opensF_cons (opens_slice (opens_int Try.underlying3) Try.underlying34 (by kernel_rfl) 8 (by kernel_rfl)) rfl (by kernel_rfl) rfl (opensF_cons (opens_int Try.underlying3) rfl (by kernel_rfl) rfl (opensF_cons (opens_int Try.underlying3) rfl (by kernel_rfl) rfl (opensF_last opens38 rfl (by kernel_rfl) rfl)))) (by kernel_rfl) rfl (fun _ => rfl) (fun _ h => h)
def WF26 (x : S26) : Prop := ((fun s : ByteArray => s.size ≤ 140737488351232) x.f0) ∧ ((fun l : List ByteArray => l.length * 16 ≤ 140737488351232 ∧ ∀ x ∈ l, (fun s : ByteArray => s.size ≤ 140737488351232) x) x.f1) ∧ ((fun s : ByteArray => s.size ≤ 140737488351232) x.f2) ∧ ((fun l : List ByteArray => l.length * 16 ≤ 140737488351232 ∧ ∀ x ∈ l, (fun s : ByteArray => s.size ≤ 140737488351232) x) x.f3) ∧ ((fun l : List (S58) => l.length * 72 ≤ 140737488351232 ∧ ∀ x ∈ l, WF58 x) x.f4) ∧ ((fun l : List (S40) => l.length * 56 ≤ 140737488351232 ∧ ∀ x ∈ l, WF40 x) x.f5)
theorem opens26 : Opens Try.prog 26 k26 WF26 :=
 opens_struct' (fun p : (ByteArray) × (List ByteArray) × (ByteArray) × (List ByteArray) × (List (S58)) × (List (S40)) => (⟨p.1, p.2.1, p.2.2.1, p.2.2.2.1, p.2.2.2.2.1, p.2.2.2.2.2⟩ : S26)) (fun x : S26 => (x.f0, x.f1, x.f2, x.f3, x.f4, x.f5)) Try.underlying26 (opensF_cons (opens_string Try.underlying9) rfl (by kernel_rfl) rfl (opensF_cons (opens_slice (opens_string Try.underlying9) Try.underlying22 (by kernel_rfl) 16 (by kernel_rfl)) rfl (by kernel_rfl) rfl (opensF_cons (opens_string Try.underlying9) rfl (by kernel_rfl) rfl (opensF_cons (opens_slice (opens_string Try.underlying9) Try.underlying22 (by kernel_rfl) 16 (by kernel_rfl)) rfl (by kernel_rfl) rfl (opensF_cons (opens_slice opens58 Try.underlying23 (by kernel_rfl) 72 (by kernel_rfl)) rfl (by kernel_rfl) rfl (opensF_last (opens_slice opens40 Try.underlying24 (by kernel_rfl) 56 (by kernel_rfl)) rfl (by kernel_rfl) rfl)))))) (by kernel_rfl) rfl (fun _ => rfl) (fun _ h => h)
end Go.Proofs.Ytclhjalgflebfaa.Q

namespace Go.Proofs.Ytclhjalgflebfaa.Q
open Go.RowKit Go.Proofs.YtclhjalgflebfaaW.PrintWords Go.Proofs.YtclhjalgflebfaaW.PrintLast Go.Proofs.YtclhjalgflebfaaW.PrintMore
set_option linter.unusedVariables false
set_option linter.unusedSimpArgs false
def DomChain.Pure : Prop := ∀ (a0_0 : ByteArray) (l0_1 : List ByteArray) (a0_2 : ByteArray) (l0_3 : List ByteArray) (l0_4 : List (S58)) (l0_5 : List (S40)), WF26 ⟨a0_0, l0_1, a0_2, l0_3, l0_4, l0_5⟩ → ∃ k, truantlaw10_DomChain.f k a0_0 l0_1 a0_2 l0_3 l0_4 l0_5 = some true
end Go.Proofs.Ytclhjalgflebfaa.Q

/- Who is on each way: the nearest ones, round by round; told of any graph whose blocks stand in an order in which each has one of those that lead to it ahead. -/

namespace Go.Proofs.Ytclhjalgflebfaa.Q
open Go.RowKit Go.Proofs.YtclhjalgflebfaaW.PrintWords Go.Proofs.YtclhjalgflebfaaW.PrintLast Go.Proofs.YtclhjalgflebfaaW.PrintMore
set_option linter.unusedVariables false
set_option linter.unusedSimpArgs false
/-- at: the place of each that is reached; -1: it isn't. -/
structure Gr (prev : Int → List Int) (at_ : Int → Int) : Prop where
 none : at_ (-1) = -1
 zero : at_ 0 = 0
 inj : ∀ x y, at_ x ≠ -1 → at_ x = at_ y → x = y
 pos : ∀ x, at_ x ≠ -1 → 0 ≤ at_ x
 up : ∀ b, at_ b ≠ -1 → b ≠ 0 → ∃ p ∈ prev b, at_ p ≠ -1 ∧ at_ p < at_ b
 fwd : ∀ b p, p ∈ prev b → at_ p ≠ -1 → at_ b ≠ -1
section
variable {prev : Int → List Int} {at_ nr : Int → Int}
/-- It is come to by a way without y that steps back r times. -/
inductive AvR (prev : Int → List Int) (at_ : Int → Int) (y : Int) : Nat → Int → Prop
 | zero (h : (0 : Int) ≠ y) : AvR prev at_ y 0 0
 | fwd {r : Nat} {p b : Int} (h : AvR prev at_ y r p) (hp : p ∈ prev b) (hb : b ≠ y) (ha : at_ p < at_ b) : AvR prev at_ y r b
 | ret {r : Nat} {p b : Int} (h : AvR prev at_ y r p) (hp : p ∈ prev b) (hb : b ≠ y) (ha : at_ b ≤ at_ p) : AvR prev at_ y (r + 1) b
def Av (prev : Int → List Int) (at_ : Int → Int) (y x : Int) : Prop := ∃ r, AvR prev at_ y r x
/-- d stands on each way to x. -/
def Domi (prev : Int → List Int) (at_ : Int → Int) (d x : Int) : Prop := at_ x ≠ -1 ∧ ¬ Av prev at_ d x
theorem Av.step {y p b : Int} (h : Av prev at_ y p) (hp : p ∈ prev b) (hb : b ≠ y) : Av prev at_ y b := by
 obtain ⟨r, h⟩ := h
 by_cases ha : at_ p < at_ b
 ·exact ⟨r, .fwd h hp hb ha⟩
 ·exact ⟨r + 1, .ret h hp hb (by omega)⟩
theorem AvR.ne {y x : Int} {r : Nat} (h : AvR prev at_ y r x) : x ≠ y := by
 cases h with
 | zero h => exact h
 | fwd _ _ hb _ => exact hb
 | ret _ _ hb _ => exact hb
theorem AvR.reached (g : Gr prev at_) {y x : Int} {r : Nat} (h : AvR prev at_ y r x) : at_ x ≠ -1 := by
 induction h with
 | zero _ => rw [g.zero]; decide
 | fwd _ hp _ _ ih => exact g.fwd _ _ hp ih
 | ret _ hp _ _ ih => exact g.fwd _ _ hp ih
theorem Domi.self {x : Int} (hx : at_ x ≠ -1) : Domi prev at_ x x := ⟨hx, fun ⟨_, h⟩ => h.ne rfl⟩
theorem zero_dom {x : Int} (hx : at_ x ≠ -1) : Domi prev at_ 0 x := ⟨hx, fun ⟨_, h⟩ => by
 have key : ∀ {r : Nat} {z : Int}, AvR prev at_ 0 r z → False := by
  intro r z h
  induction h with
  | zero h => exact h rfl
  | fwd _ _ _ _ ih => exact ih
  | ret _ _ _ _ ih => exact ih
 exact key h⟩
/-- Of those that lead to x, too, if it isn't x itself. -/
theorem Domi.prev_ {d x p : Int} (h : Domi prev at_ d x) (hne : d ≠ x) (hp : p ∈ prev x) (hr : at_ p ≠ -1) : Domi prev at_ d p := ⟨hr, fun k => h.2 (k.step hp (Ne.symm hne))⟩
/-- A way by which places rise. -/
theorem rising (g : Gr prev at_) (d : Int) : ∀ (n : Nat) (x : Int), at_ x ≠ -1 → at_ x ≤ n → at_ x < at_ d → Av prev at_ d x := by
 intro n
 induction n with
 | zero =>
  intro x hx hn hd
  have h0 := g.pos x hx
  have : x = 0 := g.inj x 0 hx (by rw [g.zero]; omega)
  subst this
  exact ⟨0, .zero (fun e => by rw [← e] at hd; omega)⟩
 | succ n ih =>
  intro x hx hn hd
  by_cases h0 : x = 0
  ·subst h0
   exact ⟨0, .zero (fun e => by rw [← e] at hd; omega)⟩
  ·obtain ⟨p, hp, hr, ha⟩ := g.up x hx h0
   exact (ih p hr (by omega) (by omega)).step hp (fun e => by rw [e] at hd; omega)
theorem Domi.le (g : Gr prev at_) {d x : Int} (h : Domi prev at_ d x) : at_ d ≤ at_ x := by
 rcases (show at_ x < at_ d ∨ at_ d ≤ at_ x by omega) with hlt | hge
 ·exact absurd (rising g d (at_ x).toNat x h.1 (by have := g.pos x h.1; omega) hlt) h.2
 ·exact hge
theorem dom_zero (g : Gr prev at_) {d : Int} (hd : at_ d ≠ -1) (h : Domi prev at_ d 0) : d = 0 := by
 have h1 := h.le g
 rw [g.zero] at h1
 exact g.inj d 0 hd (by rw [g.zero]; have := g.pos d hd; omega)
/-! the nearest ones: a tree -/
/-- What is known of the nearest ones: each stands ahead. -/
structure Tr (at_ nr : Int → Int) : Prop where
 zero : nr 0 = 0
 known : ∀ x, nr x ≠ -1 → at_ x ≠ -1
 up : ∀ x, x ≠ 0 → nr x ≠ -1 → at_ (nr x) < at_ x ∧ nr (nr x) ≠ -1
inductive On (nr : Int → Int) (a : Int) : Int → Prop
 | self : On nr a a
 | up {x : Int} (h0 : x ≠ 0) (h : On nr a (nr x)) : On nr a x
theorem On.trans {a b x : Int} (h : On nr a b) (k : On nr b x) : On nr a x := by
 induction k with
 | self => exact h
 | up h0 _ ih => exact .up h0 ih
theorem On.le (t : Tr at_ nr) {a x : Int} (h : On nr a x) : nr x ≠ -1 → at_ a ≤ at_ x ∧ nr a ≠ -1 := by
 induction h with
 | self => exact fun h => ⟨Int.le_refl _, h⟩
 | up h0 _ ih =>
  intro hx
  have h1 := t.up _ h0 hx
  have h2 := ih h1.2
  exact ⟨by omega, h2.2⟩
theorem On.next {a x : Int} (h : On nr a x) (hne : a ≠ x) : x ≠ 0 ∧ On nr a (nr x) := by
 cases h with
 | self => exact absurd rfl hne
 | up h0 h => exact ⟨h0, h⟩
/-- Whoever is on each way stands among the nearest ones upwards. -/
def Jn (prev : Int → List Int) (at_ nr : Int → Int) : Prop := ∀ x, x ≠ 0 → nr x ≠ -1 → ∀ d, at_ d ≠ -1 → Domi prev at_ d x → d ≠ x → Domi prev at_ d (nr x)
theorem Jn.on (g : Gr prev at_) (t : Tr at_ nr) (j : Jn prev at_ nr) (d : Int) (hd : at_ d ≠ -1) : ∀ (n : Nat) (x : Int), at_ x ≤ n → nr x ≠ -1 → Domi prev at_ d x → On nr d x := by
 intro n
 induction n with
 | zero =>
  intro x hn hx h
  by_cases hz : x = 0
  ·subst hz
   rw [dom_zero g hd h]; exact .self
  ·have h1 := t.up x hz hx
   have := g.pos (nr x) (t.known _ h1.2)
   omega
 | succ n ih =>
  intro x hn hx h
  by_cases hz : x = 0
  ·subst hz
   rw [dom_zero g hd h]; exact .self
  ·by_cases he : d = x
   ·subst he; exact .self
   ·have h1 := t.up x hz hx
    exact .up hz (ih (nr x) (by omega) h1.2 (j x hz hx d hd h he))
/-- Once the nearest one of c is another. -/
def putI (nr : Int → Int) (c m : Int) : Int → Int := fun x => if x = c then m else nr x
theorem put_same (nr : Int → Int) (c m : Int) : putI nr c m c = m := if_pos rfl
theorem put_other (nr : Int → Int) {c m x : Int} (h : x ≠ c) : putI nr c m x = nr x := if_neg h
/-- Above those that stand ahead of c nothing changes. -/
theorem On.put (t : Tr at_ nr) {c m a x : Int} (h : On nr a x) : nr x ≠ -1 → at_ x < at_ c → On (putI nr c m) a x := by
 induction h with
 | self => exact fun _ _ => .self
 | @up x h0 h ih =>
  intro hx hc
  have h1 := t.up x h0 hx
  refine .up h0 ?_
  rw [put_other nr (fun e => by rw [e] at hc; omega)]
  exact ih h1.2 (by omega)
theorem On.unput (t : Tr at_ nr) {c m a x : Int} (h : On (putI nr c m) a x) : nr x ≠ -1 → at_ x < at_ c → On nr a x := by
 induction h with
 | self => exact fun _ _ => .self
 | @up x h0 h ih =>
  intro hx hc
  have h1 := t.up x h0 hx
  rw [put_other nr (fun e => by rw [e] at hc; omega)] at ih
  exact .up h0 (ih h1.2 (by omega))
theorem On.part {c m a x : Int} (h : On (putI nr c m) a x) : On nr c x → On nr a x ∨ On (putI nr c m) a c := by
 induction h with
 | self => exact fun _ => .inl .self
 | @up x h0 h ih =>
  intro hc
  by_cases e : x = c
  ·subst e
   exact .inr (.up h0 h)
  ·rw [put_other nr e] at ih
   rcases ih (hc.next (Ne.symm e)).2 with k | k
   ·exact .inl (.up h0 k)
   ·exact .inr k
theorem On.whole {c m a x : Int} (h : On (putI nr c m) a x) : ¬ On nr c x → On nr a x := by
 induction h with
 | self => exact fun _ => .self
 | @up x h0 h ih =>
  intro hc
  have e : x ≠ c := fun e => hc (by subst e; exact .self)
  rw [put_other nr e] at ih
  exact .up h0 (ih (fun k => hc (.up h0 k)))
/-- A way to x passes c, or it is a way without c. -/
theorem AvR.passes {y c x : Int} {q : Nat} (h : AvR prev at_ y q x) : (∃ q', q' ≤ q ∧ AvR prev at_ y q' c) ∨ AvR prev at_ c q x := by
 induction h with
 | zero h =>
  by_cases e : (0 : Int) = c
  ·subst e; exact .inl ⟨0, Nat.le_refl _, .zero h⟩
  ·exact .inr (.zero e)
 | @fwd r p b h hp hb ha ih =>
  by_cases e : b = c
  ·subst e; exact .inl ⟨r, Nat.le_refl _, .fwd h hp hb ha⟩
  ·rcases ih with ⟨q', h1, h2⟩ | k
   ·exact .inl ⟨q', h1, h2⟩
   ·exact .inr (.fwd k hp e ha)
 | @ret r p b h hp hb ha ih =>
  by_cases e : b = c
  ·subst e; exact .inl ⟨r + 1, Nat.le_refl _, .ret h hp hb ha⟩
  ·rcases ih with ⟨q', h1, h2⟩ | k
   ·exact .inl ⟨q', by omega, h2⟩
   ·exact .inr (.ret k hp e ha)
/-- Behind r rounds, and the blocks up to place i of the next one, it is told of x that y isn't on each way. -/
def Est (prev : Int → List Int) (at_ : Int → Int) (r : Nat) (i : Int) (y x : Int) : Prop := ∃ q, AvR prev at_ y q x ∧ (q + 1 ≤ r ∨ (q ≤ r ∧ at_ x ≤ i))
def Sn (prev : Int → List Int) (at_ nr : Int → Int) (r : Nat) (i : Int) : Prop := ∀ y x, nr x ≠ -1 → Est prev at_ r i y x → ¬ On nr y x
/-- What is told of a block's nearest one, by those that lead to it. -/
structure Found (prev : Int → List Int) (at_ nr : Int → Int) (c m : Int) : Prop where
 known : nr m ≠ -1
 on : ∀ p ∈ prev c, at_ p ≠ -1 → nr p ≠ -1 → On nr m p
 dom : ∀ d, at_ d ≠ -1 → (∀ p ∈ prev c, at_ p ≠ -1 → Domi prev at_ d p) → Domi prev at_ d m
/-- One block's step keeps all three. -/
theorem step_keeps (g : Gr prev at_) (t : Tr at_ nr) (j : Jn prev at_ nr) {r : Nat} {i : Int} (s : Sn prev at_ nr r i) {c m : Int} (hc0 : c ≠ 0) (hcr : at_ c ≠ -1) (hci : at_ c = i + 1)
  (hk : ∀ x, at_ x ≠ -1 → (at_ x ≤ i ∨ 1 ≤ r) → nr x ≠ -1) (f : Found prev at_ nr c m) :
  Tr at_ (putI nr c m) ∧ Jn prev at_ (putI nr c m) ∧ Sn prev at_ (putI nr c m) r (i + 1) ∧ (∀ x, at_ x ≠ -1 → (at_ x ≤ i + 1 ∨ 1 ≤ r) → putI nr c m x ≠ -1) := by
 have hmr := t.known _ f.known
 have hm1 : m ≠ -1 := fun e => hmr (by rw [e]; exact g.none)
 obtain ⟨p0, hp0, hr0, ha0⟩ := g.up c hcr hc0
 have hm0 := ((f.on p0 hp0 hr0 (hk p0 hr0 (.inl (by omega)))).le t (hk p0 hr0 (.inl (by omega)))).1
 have hmc : at_ m < at_ c := by omega
 have hne : m ≠ c := fun e => by rw [e] at hmc; omega
 have hC : ∀ y, Est prev at_ r (i + 1) y c → ¬ On (putI nr c m) y c := by
  rintro y ⟨q, hq, hcond⟩ hon
  have hyc := hq.ne
  have h1 := (hon.next (Ne.symm hyc)).2
  rw [put_same] at h1
  have h2 := h1.unput t f.known hmc
  cases hq with
  | zero _ => exact hc0 rfl
  | @fwd _ p _ h hp hb ha =>
   have hpr := h.reached g
   have hpk := hk p hpr (.inl (by omega))
   exact s y p hpk ⟨q, h, .inr ⟨by omega, by omega⟩⟩ (h2.trans (f.on p hp hpr hpk))
  | @ret q' p _ h hp hb ha =>
   have hpr := h.reached g
   have hpk := hk p hpr (.inr (by omega))
   exact s y p hpk ⟨q', h, .inl (by omega)⟩ (h2.trans (f.on p hp hpr hpk))
 refine ⟨⟨?_, ?_, ?_⟩, ?_, ?_, ?_⟩
 ·rw [put_other nr (Ne.symm hc0)]; exact t.zero
 ·intro x hx
  by_cases e : x = c
  ·rw [e]; exact hcr
  ·rw [put_other nr e] at hx; exact t.known x hx
 ·intro x hx0 hx
  by_cases e : x = c
  ·subst e
   rw [put_same, put_other nr hne]
   exact ⟨hmc, f.known⟩
  ·rw [put_other nr e] at hx ⊢
   have h1 := t.up x hx0 hx
   refine ⟨h1.1, ?_⟩
   by_cases e2 : nr x = c
   ·rw [e2, put_same]; exact hm1
   ·rw [put_other nr e2]; exact h1.2
 ·intro x hx0 hx d hd hdom hdx
  by_cases e : x = c
  ·subst e
   rw [put_same]
   exact f.dom d hd (fun p hp hr => hdom.prev_ hdx hp hr)
  ·rw [put_other nr e] at hx ⊢
   exact j x hx0 hx d hd hdom hdx
 ·intro y x hx he hon
  by_cases e : x = c
  ·subst e; exact hC y he hon
  ·rw [put_other nr e] at hx
   obtain ⟨q, hq, hcond⟩ := he
   have hax : at_ x ≠ i + 1 := fun e2 => e (g.inj x c (hq.reached g) (by rw [e2, hci]))
   have hcond2 : q + 1 ≤ r ∨ (q ≤ r ∧ at_ x ≤ i) := by omega
   have hs := s y x hx ⟨q, hq, hcond2⟩
   by_cases hcx : On nr c x
   ·rcases hq.passes (c := c) with ⟨q', hle, h'⟩ | k
    ·rcases hon.part hcx with k | k
     ·exact hs k
     ·exact hC y ⟨q', h', by omega⟩ k
    ·exact s c x hx ⟨q, k, hcond2⟩ hcx
   ·exact hs (hon.whole hcx)
 ·intro x hxr hx
  by_cases e : x = c
  ·rw [e, put_same]; exact hm1
  ·rw [put_other nr e]
   have hax : at_ x ≠ i + 1 := fun e2 => e (g.inj x c hxr (by rw [e2, hci]))
   exact hk x hxr (by omega)
/-- Behind enough rounds the nearest ones are those that stand on each way. -/
theorem on_iff (g : Gr prev at_) (t : Tr at_ nr) (j : Jn prev at_ nr) {r : Nat} {i : Int} (s : Sn prev at_ nr r i) (hall : ∀ y x, Av prev at_ y x → Est prev at_ r i y x) {d x : Int} (hd : at_ d ≠ -1) (hx : nr x ≠ -1) : On nr d x ↔ Domi prev at_ d x := by
 constructor
 ·intro h
  refine ⟨t.known x hx, fun k => ?_⟩
  exact s d x hx (hall d x k) h
 ·intro h
  exact j.on g t d hd (at_ x).toNat x (by have := g.pos x h.1; omega) hx h
/-- Two trees that tell the same tell the same nearest ones. -/
theorem nearest_same (g : Gr prev at_) {nr' : Int → Int} (t : Tr at_ nr) (t' : Tr at_ nr') {x : Int} (hx0 : x ≠ 0) (hx : nr x ≠ -1) (hx' : nr' x ≠ -1) (h : ∀ d, at_ d ≠ -1 → (On nr d x ↔ On nr' d x)) : nr x = nr' x := by
 have h1 := t.up x hx0 hx
 have h1' := t'.up x hx0 hx'
 have r1 := t.known _ h1.2
 have r1' := t'.known _ h1'.2
 have a1 : On nr (nr x) x := .up hx0 .self
 have a1' : On nr' (nr' x) x := .up hx0 .self
 have b1 := (((h _ r1).mp a1).next (fun e => by rw [e] at h1; omega)).2.le t' h1'.2
 have b2 := (((h _ r1').mpr a1').next (fun e => by rw [e] at h1'; omega)).2.le t h1.2
 exact g.inj _ _ r1 (by omega)
end
end Go.Proofs.Ytclhjalgflebfaa.Q

/- meet, and what is found of a block by those that lead to it; told of the rows. -/

namespace Go.Proofs.Ytclhjalgflebfaa.Q
open Go.RowKit Go.Proofs.YtclhjalgflebfaaW.PrintWords Go.Proofs.YtclhjalgflebfaaW.PrintLast Go.Proofs.YtclhjalgflebfaaW.PrintMore
set_option linter.unusedVariables false
set_option linter.unusedSimpArgs false
def fnI (n : Nat) (l : List Int) (x : Int) : Int := if 0 ≤ x ∧ x < (n : Int) then rd l x else -1
theorem fnI_in {n : Nat} {l : List Int} {x : Int} (h : fnI n l x ≠ -1) : 0 ≤ x ∧ x < (n : Int) := by
 unfold fnI at h
 split at h
 ·assumption
 ·exact absurd rfl h
theorem fnI_rd {n : Nat} {l : List Int} {x : Int} (h0 : 0 ≤ x) (h1 : x < (n : Int)) : fnI n l x = rd l x := if_pos ⟨h0, h1⟩
section
variable {prev : Int → List Int} {n : Nat} {at_ nr : List Int}
theorem up_spec (g : Gr prev (fnI n at_)) (t : Tr (fnI n at_) (fnI n nr)) (j : Jn prev (fnI n at_) (fnI n nr)) (ha : at_.length = n) (hn : nr.length = n) (lim : Int) (hl : 0 ≤ lim) :
  ∀ (k : Nat) (a : Int), fnI n nr a ≠ -1 → fnI n at_ a < k → ∃ a', upO at_ nr k lim a = some a' ∧ On (fnI n nr) a' a ∧ fnI n nr a' ≠ -1 ∧ fnI n at_ a' ≤ lim ∧ (fnI n at_ a ≤ lim → a' = a) ∧ (∀ d, fnI n at_ d ≠ -1 → Domi prev (fnI n at_) d a → fnI n at_ d ≤ lim → Domi prev (fnI n at_) d a') := by
 intro k
 induction k with
 | zero =>
  intro a hk hlt
  have := g.pos a (t.known a hk)
  omega
 | succ k ih =>
  intro a hk hlt
  obtain ⟨h0, h1⟩ := fnI_in hk
  have e1 : rd at_ a = fnI n at_ a := (fnI_rd h0 h1).symm
  have e2 : rd nr a = fnI n nr a := (fnI_rd h0 h1).symm
  rw [upO, if_pos ⟨h0, by rw [ha]; exact h1⟩, e1]
  by_cases hgt : lim < fnI n at_ a
  ·have hz : a ≠ 0 := fun e => by rw [e, g.zero] at hgt; omega
   have h2 := t.up a hz hk
   rw [if_pos hgt, if_pos (by rw [hn]; exact h1), e2]
   obtain ⟨a', q1, q2, q3, q4, _, q6⟩ := ih (fnI n nr a) h2.2 (by omega)
   refine ⟨a', q1, .up hz q2, q3, q4, fun h => by omega, fun d hd hdom hdl => q6 d hd ?_ hdl⟩
   exact j a hz hk d hd hdom (fun e => by rw [e] at hdl; omega)
  ·rw [if_neg hgt]
   exact ⟨a, rfl, .self, hk, by omega, fun _ => rfl, fun d _ h _ => h⟩
theorem meet_spec (g : Gr prev (fnI n at_)) (t : Tr (fnI n at_) (fnI n nr)) (j : Jn prev (fnI n at_) (fnI n nr)) (ha : at_.length = n) (hn : nr.length = n) :
  ∀ (k : Nat) (a b : Int), fnI n nr a ≠ -1 → fnI n nr b ≠ -1 → fnI n at_ a + fnI n at_ b + 2 ≤ k → ∃ m, meetO at_ nr k a b = some m ∧ On (fnI n nr) m a ∧ On (fnI n nr) m b ∧ fnI n nr m ≠ -1 ∧ (∀ d, fnI n at_ d ≠ -1 → Domi prev (fnI n at_) d a → Domi prev (fnI n at_) d b → Domi prev (fnI n at_) d m) := by
 intro k
 induction k with
 | zero =>
  intro a b hka hkb hk
  have h1 := g.pos a (t.known a hka)
  have h2 := g.pos b (t.known b hkb)
  omega
 | succ k ih =>
  intro a b hka hkb hk
  have h1 := g.pos a (t.known a hka)
  have h2 := g.pos b (t.known b hkb)
  rw [meetO]
  by_cases hab : a = b
  ·rw [if_pos hab]
   subst hab
   exact ⟨a, rfl, .self, .self, hka, fun d _ h _ => h⟩
  ·rw [if_neg hab]
   obtain ⟨hb0, hb1⟩ := fnI_in hkb
   have e1 : rd at_ b = fnI n at_ b := (fnI_rd hb0 hb1).symm
   rw [if_pos ⟨hb0, by rw [ha]; exact hb1⟩, e1]
   obtain ⟨a', p1, p2, p3, p4, p5, p6⟩ := up_spec g t j ha hn (fnI n at_ b) h2 k a hka (by omega)
   obtain ⟨ha0, ha1⟩ := fnI_in p3
   have e2 : rd at_ a' = fnI n at_ a' := (fnI_rd ha0 ha1).symm
   have h3 := g.pos a' (t.known a' p3)
   obtain ⟨b', q1, q2, q3, q4, q5, q6⟩ := up_spec g t j ha hn (fnI n at_ a') h3 k b hkb (by omega)
   have h4 := g.pos b' (t.known b' q3)
   have hle := (p2.le t hka).1
   have hne : fnI n at_ a ≠ fnI n at_ b := fun e => hab (g.inj a b (t.known a hka) e)
   have hlt : fnI n at_ a' + fnI n at_ b' < fnI n at_ a + fnI n at_ b := by omega
   obtain ⟨m, r1, r2, r3, r4, r5⟩ := ih a' b' p3 q3 (by omega)
   refine ⟨m, ?_, r2.trans p2, r3.trans q2, r4, fun d hd da db => ?_⟩
   ·rw [p1, Option.bind_some, if_pos ⟨ha0, by rw [ha]; exact ha1⟩, e2, q1, Option.bind_some]
    exact r1
   ·have da' := p6 d hd da (db.le g)
    exact r5 d hd da' (q6 d hd db (da'.le g))
/-- The fold over those that lead to a block. -/
theorem fold_spec (g : Gr prev (fnI n at_)) (t : Tr (fnI n at_) (fnI n nr)) (j : Jn prev (fnI n at_) (fnI n nr)) (ha : at_.length = n) (hn : nr.length = n) (K : Nat) (hK : ∀ x, fnI n at_ x ≠ -1 → fnI n at_ x < n) (hK2 : 2 * n + 2 ≤ K) :
  ∀ (ps : List Int) (nx : Int), (∀ p ∈ ps, 0 ≤ p ∧ p < (n : Int)) → (nx = -1 ∨ fnI n nr nx ≠ -1) → ∃ m, ps.foldlM (predO at_ nr K) nx = some m ∧ (m = -1 → nx = -1 ∧ ∀ p ∈ ps, fnI n at_ p ≠ -1 → fnI n nr p = -1) ∧
   (m ≠ -1 → fnI n nr m ≠ -1 ∧ (nx ≠ -1 → On (fnI n nr) m nx) ∧ (∀ p ∈ ps, fnI n at_ p ≠ -1 → fnI n nr p ≠ -1 → On (fnI n nr) m p) ∧ (∀ d, fnI n at_ d ≠ -1 → (nx ≠ -1 → Domi prev (fnI n at_) d nx) → (∀ p ∈ ps, fnI n at_ p ≠ -1 → Domi prev (fnI n at_) d p) → Domi prev (fnI n at_) d m)) := by
 intro ps
 induction ps with
 | nil =>
  intro nx _ hnx
  refine ⟨nx, rfl, (fun h => ⟨h, (fun p hp => by cases hp)⟩), fun h => ⟨hnx.resolve_left h, fun _ => .self, (fun p hp => by cases hp), fun d _ h1 _ => h1 h⟩⟩
 | cons p ps ih =>
  intro nx hps hnx
  obtain ⟨hp0, hp1⟩ := hps p List.mem_cons_self
  have hps' : ∀ q ∈ ps, 0 ≤ q ∧ q < (n : Int) := fun q hq => hps q (List.mem_cons_of_mem _ hq)
  have e1 : rd at_ p = fnI n at_ p := (fnI_rd hp0 hp1).symm
  have e2 : rd nr p = fnI n nr p := (fnI_rd hp0 hp1).symm
  have hstep : predO at_ nr K nx p = if fnI n at_ p = -1 then some nx else if fnI n nr p = -1 then some nx else if nx = -1 then some p else meetO at_ nr K nx p := by
   unfold predO
   rw [if_pos ⟨hp0, by rw [ha]; exact hp1⟩, e1, e2]
   by_cases h1 : fnI n at_ p = -1
   ·rw [if_pos h1, if_pos h1]
   ·rw [if_neg h1, if_neg h1, if_pos (by rw [hn]; exact hp1)]
  rw [List.foldlM_cons, hstep]
  by_cases h1 : fnI n at_ p = -1
  ·rw [if_pos h1]
   obtain ⟨m, q1, q2, q3⟩ := ih nx hps' hnx
   refine ⟨m, q1, fun h => ⟨(q2 h).1, fun q hq hr => ?_⟩, fun h => ⟨(q3 h).1, (q3 h).2.1, fun q hq hr hk => ?_, fun d hd h2 h3 => (q3 h).2.2.2 d hd h2 (fun q hq hr => h3 q (List.mem_cons_of_mem _ hq) hr)⟩⟩
   ·rcases List.mem_cons.mp hq with rfl | hq
    ·exact absurd h1 hr
    ·exact (q2 h).2 q hq hr
   ·rcases List.mem_cons.mp hq with rfl | hq
    ·exact absurd h1 hr
    ·exact (q3 h).2.2.1 q hq hr hk
  ·rw [if_neg h1]
   by_cases h2 : fnI n nr p = -1
   ·rw [if_pos h2]
    obtain ⟨m, q1, q2, q3⟩ := ih nx hps' hnx
    refine ⟨m, q1, fun h => ⟨(q2 h).1, fun q hq hr => ?_⟩, fun h => ⟨(q3 h).1, (q3 h).2.1, fun q hq hr hk => ?_, fun d hd h2 h3 => (q3 h).2.2.2 d hd h2 (fun q hq hr => h3 q (List.mem_cons_of_mem _ hq) hr)⟩⟩
    ·rcases List.mem_cons.mp hq with rfl | hq
     ·exact h2
     ·exact (q2 h).2 q hq hr
    ·rcases List.mem_cons.mp hq with rfl | hq
     ·exact absurd h2 hk
     ·exact (q3 h).2.2.1 q hq hr hk
   ·rw [if_neg h2]
    -- the new one, known: on the way up from p, and from nx
    have key : ∀ z, fnI n nr z ≠ -1 → On (fnI n nr) z p → (nx ≠ -1 → On (fnI n nr) z nx) → (∀ d, fnI n at_ d ≠ -1 → (nx ≠ -1 → Domi prev (fnI n at_) d nx) → Domi prev (fnI n at_) d p → Domi prev (fnI n at_) d z) →
      ∃ m, ps.foldlM (predO at_ nr K) z = some m ∧ (m = -1 → nx = -1 ∧ ∀ q ∈ p :: ps, fnI n at_ q ≠ -1 → fnI n nr q = -1) ∧
      (m ≠ -1 → fnI n nr m ≠ -1 ∧ (nx ≠ -1 → On (fnI n nr) m nx) ∧ (∀ q ∈ p :: ps, fnI n at_ q ≠ -1 → fnI n nr q ≠ -1 → On (fnI n nr) m q) ∧ (∀ d, fnI n at_ d ≠ -1 → (nx ≠ -1 → Domi prev (fnI n at_) d nx) → (∀ q ∈ p :: ps, fnI n at_ q ≠ -1 → Domi prev (fnI n at_) d q) → Domi prev (fnI n at_) d m)) := by
     intro z hz hzp hzn hzd
     have hz1 : z ≠ -1 := fun e => by
      have := (fnI_in hz).1
      omega
     obtain ⟨m, q1, q2, q3⟩ := ih z hps' (.inr hz)
     refine ⟨m, q1, fun h => absurd (q2 h).1 hz1, fun h => ⟨(q3 h).1, fun hx => ((q3 h).2.1 hz1).trans (hzn hx), fun q hq hr hk => ?_, fun d hd h3 h4 => ?_⟩⟩
     ·rcases List.mem_cons.mp hq with rfl | hq
      ·exact ((q3 h).2.1 hz1).trans hzp
      ·exact (q3 h).2.2.1 q hq hr hk
     ·exact (q3 h).2.2.2 d hd (fun _ => hzd d hd h3 (h4 p List.mem_cons_self h1)) (fun q hq hr => h4 q (List.mem_cons_of_mem _ hq) hr)
    by_cases h3 : nx = -1
    ·rw [if_pos h3]
     exact key p h2 .self (fun h => absurd h3 h) (fun d _ _ h => h)
    ·rw [if_neg h3]
     have hnk := hnx.resolve_left h3
     have b1 := hK nx (t.known nx hnk)
     have b2 := hK p h1
     obtain ⟨z, r1, r2, r3, r4, r5⟩ := meet_spec g t j ha hn K nx p hnk h2 (by omega)
     rw [r1]
     exact key z r4 r3 (fun _ => r2) (fun d hd h4 h5 => r5 d hd (h4 h3) h5)
end
end Go.Proofs.Ytclhjalgflebfaa.Q

/- Rounds: the nearest ones come to stand still, and are those that stand on each way. -/

namespace Go.Proofs.Ytclhjalgflebfaa.Q
open Go.RowKit Go.Proofs.YtclhjalgflebfaaW.PrintWords Go.Proofs.YtclhjalgflebfaaW.PrintLast Go.Proofs.YtclhjalgflebfaaW.PrintMore
set_option linter.unusedVariables false
set_option linter.unusedSimpArgs false
/-- Those that lead to a block. -/
def prevI (n : Nat) (h : List (List Int)) (b : Int) : List Int := if 0 ≤ b ∧ b < (n : Int) then rowOf h b else []
theorem prevI_in {n : Nat} {h : List (List Int)} {b : Int} (h0 : 0 ≤ b) (h1 : b < (n : Int)) : prevI n h b = rowOf h b := if_pos ⟨h0, h1⟩
structure Ord (n : Nat) (o at_ : List Int) (h : List (List Int)) : Prop where
 len : at_.length = n
 hlen : h.length = n
 gr : Gr (prevI n h) (fnI n at_)
 at_o : ∀ (i : Nat) (hi : i < o.length), fnI n at_ o[i] = i
 all : ∀ x, fnI n at_ x ≠ -1 → fnI n at_ x < o.length
 lt : ∀ x, fnI n at_ x ≠ -1 → fnI n at_ x < n
 rows : ∀ b, ∀ p ∈ prevI n h b, 0 ≤ p ∧ p < (n : Int)
 pos : 1 ≤ o.length
theorem fn_set {n : Nat} {nr : List Int} (hn : nr.length = n) {c m : Int} (h0 : 0 ≤ c) (h1 : c < (n : Int)) : fnI n (nr.set c.toNat m) = putI (fnI n nr) c m := by
 funext x
 unfold fnI putI
 dsimp only
 by_cases e : x = c
 ·subst e
  rw [if_pos ⟨h0, h1⟩, if_pos rfl]
  unfold rd
  rw [getD_at _ _ (by rw [List.length_set]; omega), List.getElem_set_self]
 ·rw [if_neg e]
  by_cases hx : 0 ≤ x ∧ x < (n : Int)
  ·rw [if_pos hx, if_pos hx]
   unfold rd
   rw [getD_at _ _ (by rw [List.length_set]; omega), getD_at _ _ (by omega), List.getElem_set_ne (by omega)]
  ·rw [if_neg hx, if_neg hx]
section
variable {n : Nat} {o at_ : List Int} {h : List (List Int)}
/-- All that is kept, behind r rounds and the blocks up to place i. -/
structure Inv (h : List (List Int)) (n : Nat) (at_ : List Int) (r : Nat) (i : Int) (nr : List Int) : Prop where
 len : nr.length = n
 tr : Tr (fnI n at_) (fnI n nr)
 jn : Jn (prevI n h) (fnI n at_) (fnI n nr)
 sn : Sn (prevI n h) (fnI n at_) (fnI n nr) r i
 known : ∀ x, fnI n at_ x ≠ -1 → (fnI n at_ x ≤ i ∨ 1 ≤ r) → fnI n nr x ≠ -1
/-- Whether r rounds are enough. -/
def Enough (h : List (List Int)) (n : Nat) (at_ : List Int) (r : Nat) : Prop := ∀ y x, Av (prevI n h) (fnI n at_) y x → ∃ q, AvR (prevI n h) (fnI n at_) y q x ∧ q + 1 ≤ r
theorem one_step (od : Ord n o at_ h) (K : Nat) (hK : 2 * n + 2 ≤ K) {r : Nat} {i : Nat} {nr : List Int} (f : Bool) (v : Inv h n at_ r i nr) (hi : i + 1 < o.length) :
  ∃ m, stepR at_ h K (nr, f) o[i + 1] = some (nr.set o[i + 1].toNat m, f || (rd nr o[i + 1] != m)) ∧ Inv h n at_ r ((i + 1 : Nat) : Int) (nr.set o[i + 1].toNat m) ∧ (Enough h n at_ r → rd nr o[i + 1] = m) := by
 obtain ⟨c, hc⟩ : ∃ c, c = o[i + 1] := ⟨_, rfl⟩
 rw [← hc]
 have hca : fnI n at_ c = ((i + 1 : Nat) : Int) := by rw [hc]; exact od.at_o _ hi
 have hcr : fnI n at_ c ≠ -1 := by rw [hca]; omega
 obtain ⟨c0, c1⟩ := fnI_in hcr
 have hc0 : c ≠ 0 := fun e => by rw [e, od.gr.zero] at hca; omega
 obtain ⟨m, q1, q2, q3⟩ := fold_spec od.gr v.tr v.jn od.len v.len K od.lt hK (prevI n h c) (-1) (od.rows c) (.inl rfl)
 have hm : m ≠ -1 := fun e => by
  obtain ⟨p, hp, hr, ha⟩ := od.gr.up c hcr hc0
  exact v.known p hr (.inl (by omega)) ((q2 e).2 p hp hr)
 obtain ⟨k1, _, k2, k3⟩ := q3 hm
 have hf : Found (prevI n h) (fnI n at_) (fnI n nr) c m := ⟨k1, k2, fun d hd hp => k3 d hd (fun e => absurd rfl e) hp⟩
 obtain ⟨t2, j2, s2, w2⟩ := step_keeps od.gr v.tr v.jn v.sn hc0 hcr (by rw [hca]; omega) v.known hf
 rw [← fn_set v.len c0 c1] at t2 j2 s2 w2
 refine ⟨m, ?_, ⟨by rw [List.length_set]; exact v.len, t2, j2, ?_, ?_⟩, fun en => ?_⟩
 ·unfold stepR
  rw [prevI_in c0 c1] at q1
  rw [if_pos ⟨c0, by rw [od.hlen]; exact c1, by show c < ((nr.length : Nat) : Int); rw [v.len]; exact c1⟩, q1]
  rfl
 ·rw [show ((i + 1 : Nat) : Int) = (i : Int) + 1 by omega]; exact s2
 ·rw [show ((i + 1 : Nat) : Int) = (i : Int) + 1 by omega]; exact w2
 ·have hall : ∀ (z : Int) y x, Av (prevI n h) (fnI n at_) y x → Est (prevI n h) (fnI n at_) r z y x := fun z y x k => by
   obtain ⟨q, a, b⟩ := en y x k
   exact ⟨q, a, .inl b⟩
  by_cases hr0 : r = 0
  ·exfalso
   obtain ⟨q, _, b⟩ := en (-1) 0 ⟨0, .zero (by decide)⟩
   omega
  ·have hkc := v.known c hcr (.inr (by omega))
   have hkc2 := w2 c hcr (.inr (by omega))
   have e := nearest_same od.gr v.tr t2 hc0 hkc hkc2 (fun d hd => (on_iff od.gr v.tr v.jn v.sn (hall _) hd hkc).trans (on_iff od.gr t2 j2 s2 (hall _) hd hkc2).symm)
   rw [← fnI_rd c0 c1, e, fn_set v.len c0 c1, put_same]
theorem rest_steps (od : Ord n o at_ h) (K : Nat) (hK : 2 * n + 2 ≤ K) {r : Nat} : ∀ (d i : Nat) (nr : List Int) (f : Bool), i + 1 + d = o.length → Inv h n at_ r i nr →
  ∃ nr' f', (o.drop (i + 1)).foldlM (stepR at_ h K) (nr, f) = some (nr', f') ∧ Inv h n at_ r ((o.length - 1 : Nat) : Int) nr' ∧ (f' = false → f = false ∧ nr' = nr) ∧ (Enough h n at_ r → f' = f) := by
 intro d
 induction d with
 | zero =>
  intro i nr f hd v
  rw [List.drop_eq_nil_of_le (by omega)]
  refine ⟨nr, f, rfl, ?_, fun h => ⟨h, rfl⟩, fun _ => rfl⟩
  rw [show o.length - 1 = i by omega]
  exact v
 | succ d ih =>
  intro i nr f hd v
  have hi : i + 1 < o.length := by omega
  obtain ⟨m, h1, h2, h3⟩ := one_step od K hK f v hi
  obtain ⟨nr', f', k1, k2, k3, k4⟩ := ih (i + 1) (nr.set o[i + 1].toNat m) (f || (rd nr o[i + 1] != m)) (by omega) h2
  refine ⟨nr', f', ?_, k2, fun hf => ?_, fun en => ?_⟩
  ·rw [List.drop_eq_getElem_cons hi, List.foldlM_cons, h1]
   exact k1
  ·obtain ⟨a, b⟩ := k3 hf
   rw [Bool.or_eq_false_iff] at a
   have e : rd nr o[i + 1] = m := by simpa using a.2
   refine ⟨a.1, ?_⟩
   rw [b, ← e]
   unfold rd
   by_cases hlt : o[i + 1].toNat < nr.length
   ·rw [getD_at _ _ hlt, List.set_getElem_self]
   ·rw [List.set_eq_of_length_le (by omega)]
  ·rw [k4 en, h3 en]
   simp
theorem one_round (od : Ord n o at_ h) (K : Nat) (hK : 2 * n + 2 ≤ K) {r : Nat} {nr : List Int} (v : Inv h n at_ r 0 nr) :
  ∃ nr' f', roundO o at_ h K nr = some (nr', f') ∧ Inv h n at_ (r + 1) 0 nr' ∧ (f' = false → nr' = nr) ∧ (Enough h n at_ r → f' = false) := by
 obtain ⟨nr', f', h1, h2, h3, h4⟩ := rest_steps od K hK (r := r) (o.length - 1) 0 nr false (by have := od.pos; omega) v
 refine ⟨nr', f', ?_, ⟨h2.len, h2.tr, h2.jn, ?_, ?_⟩, fun hf => (h3 hf).2, h4⟩
 ·unfold roundO
  rw [if_pos od.pos]
  exact h1
 ·rintro y x hx ⟨q, hq, hc⟩
  have hxr := hq.reached od.gr
  have hlt := od.all x hxr
  by_cases hz : x = 0
  ·subst hz
   have hy := hq.ne
   exact h2.sn y 0 hx ⟨0, .zero hy, .inr ⟨Nat.zero_le _, by rw [od.gr.zero]; omega⟩⟩
  ·have h0 : fnI n at_ x ≠ 0 := fun e => hz (od.gr.inj x 0 hxr (by rw [e, od.gr.zero]))
   have hp := od.gr.pos x hxr
   exact h2.sn y x hx ⟨q, hq, .inr ⟨by omega, by omega⟩⟩
 ·intro x hxr _
  have hlt := od.all x hxr
  exact h2.known x hxr (.inl (by omega))
/-- What the nearest ones tell at the end. -/
structure Good (h : List (List Int)) (n : Nat) (at_ nr : List Int) : Prop where
 len : nr.length = n
 tr : Tr (fnI n at_) (fnI n nr)
 known : ∀ x, fnI n at_ x ≠ -1 → fnI n nr x ≠ -1
 on : ∀ d x, fnI n at_ d ≠ -1 → fnI n at_ x ≠ -1 → (On (fnI n nr) d x ↔ Domi (prevI n h) (fnI n at_) d x)
theorem good_of (od : Ord n o at_ h) {r : Nat} {nr : List Int} (v : Inv h n at_ r 0 nr) (hr : 1 ≤ r) (en : Enough h n at_ r) : Good h n at_ nr :=
 ⟨v.len, v.tr, fun x hx => v.known x hx (.inr hr), fun d x hd hx => on_iff od.gr v.tr v.jn v.sn (fun y z k => by
  obtain ⟨q, a, b⟩ := en y z k
  exact ⟨q, a, .inl b⟩) hd (v.known x hx (.inr hr))⟩
theorem still (od : Ord n o at_ h) (K : Nat) (hK : 2 * n + 2 ≤ K) {nr : List Int} (hs : roundO o at_ h K nr = some (nr, false)) : ∀ (m r : Nat), Inv h n at_ r 0 nr → Inv h n at_ (r + m) 0 nr := by
 intro m
 induction m with
 | zero => exact fun r v => v
 | succ m ih =>
  intro r v
  obtain ⟨nr', f', h1, h2, _, _⟩ := one_round od K hK v
  rw [hs] at h1
  have e := Option.some.inj h1
  simp only [Prod.mk.injEq] at e
  rw [← e.1] at h2
  have := ih (r + 1) h2
  rwa [show r + 1 + m = r + (m + 1) by omega] at this
theorem rounds_end (od : Ord n o at_ h) (K : Nat) (hK : 2 * n + 2 ≤ K) {R : Nat} (en : ∀ r, R ≤ r → Enough h n at_ r) : ∀ (k r : Nat) (nr : List Int), Inv h n at_ r 0 nr → R + 1 ≤ r + k → 1 ≤ k → ∃ nr', roundsO o at_ h K k nr = some nr' ∧ Good h n at_ nr' := by
 intro k
 induction k with
 | zero => intro r nr _ _ hk; omega
 | succ k ih =>
  intro r nr v hk _
  obtain ⟨nr', f', h1, h2, h3, h4⟩ := one_round od K hK v
  rw [roundsO, h1, Option.bind_some]
  cases f' with
  | false =>
   have e := h3 rfl
   subst e
   refine ⟨nr', by simp, ?_⟩
   have v2 := still od K hK h1 (R + 1) r v
   exact good_of od v2 (by omega) (en _ (by omega))
  | true =>
   have hr : r < R := by
    rcases Nat.lt_or_ge r R with hlt | hge
    ·exact hlt
    ·have := h4 (en r hge); cases this
   obtain ⟨nr2, k1, k2⟩ := ih (r + 1) nr' h2 (by omega) (by omega)
   exact ⟨nr2, by simpa using k1, k2⟩
end
end Go.Proofs.Ytclhjalgflebfaa.Q

namespace Go.Proofs.Ytclhjalgflebfaa.Q
open Go.RowKit Go.Proofs.YtclhjalgflebfaaW.PrintWords Go.Proofs.YtclhjalgflebfaaW.PrintLast Go.Proofs.YtclhjalgflebfaaW.PrintMore
attribute [local go_sem] max2_int min2_int max_two min_two max_three min_three max_four min_four   -- for this text's walks alone
set_option linter.unusedVariables false
set_option linter.unusedSimpArgs false

/-! ### truantref09_Reached: function 18 -/
mutual
def truantref09_Reached.l0 : Nat → List Bool → Int → ByteArray → List ByteArray → ByteArray → List ByteArray → List (S58) → List (S40) → Option (List Bool)
 | 0, _, _, _, _, _, _, _, _ => none
 | k + 1, x3, x4, x345000, x345001, x345002, x345003, x345004, x345005 => if x4 < (x3.length : Int) then (truantref09_Reached.l1 k x3 x4 0 x345000 x345001 x345002 x345003 x345004 x345005) else (some x3)
def truantref09_Reached.l1 : Nat → List Bool → Int → Int → ByteArray → List ByteArray → ByteArray → List ByteArray → List (S58) → List (S40) → Option (List Bool)
 | 0, _, _, _, _, _, _, _, _, _ => none
 | k + 1, x3, x4, x5, x345000, x345001, x345002, x345003, x345004, x345005 => if x5 < (x3.length : Int) then ((truantref09_Next.f k x345000 x345001 x345002 x345003 x345004 x345005 x5).bind fun t349 => (truantref09_Reached.l2 k x3 x4 x5 t349 0 x345000 x345001 x345002 x345003 x345004 x345005)) else (truantref09_Reached.l0 k x3 (wrap64 (x4 + 1)) x345000 x345001 x345002 x345003 x345004 x345005)
def truantref09_Reached.l2 : Nat → List Bool → Int → Int → List Int → Int → ByteArray → List ByteArray → ByteArray → List ByteArray → List (S58) → List (S40) → Option (List Bool)
 | 0, _, _, _, _, _, _, _, _, _, _, _ => none
 | k + 1, x3, x4, x5, x6, x7, x345000, x345001, x345002, x345003, x345004, x345005 => if 0 ≤ x5 then (if x5 < (x3.length : Int) then (if rdOf false x3 x5 = true then (if x7 < (x6.length : Int) then (if 0 ≤ x7 then (if 0 ≤ (rd x6 x7) then (if (rd x6 x7) < (x3.length : Int) then (truantref09_Reached.l2 k (x3.set ((rd x6 x7) : Int).toNat true) x4 x5 x6 (wrap64 (x7 + 1)) x345000 x345001 x345002 x345003 x345004 x345005) else (none)) else (none)) else (none)) else (truantref09_Reached.l1 k x3 x4 (wrap64 (x5 + 1)) x345000 x345001 x345002 x345003 x345004 x345005)) else (truantref09_Reached.l1 k x3 x4 (wrap64 (x5 + 1)) x345000 x345001 x345002 x345003 x345004 x345005)) else (none)) else (none)
end
def truantref09_Reached.f (k : Nat) (a0_0 : ByteArray) (l0_1 : List ByteArray) (a0_2 : ByteArray) (l0_3 : List ByteArray) (l0_4 : List (S58)) (l0_5 : List (S40)) : Option (List Bool) := if 0 ≤ (l0_5.length : Int) then (if ((l0_5.length : Int) : Int).toNat ≤ 281474976710656 then ((some (List.replicate ((l0_5.length : Int) : Int).toNat false : List Bool)).bind fun y345 => (if (y345.length : Int) = 0 then (some y345) else (if 0 < (y345.length : Int) then (truantref09_Reached.l0 k (y345.set (0 : Int).toNat true) 0 a0_0 l0_1 a0_2 l0_3 l0_4 l0_5) else (none)))) else (none)) else (none)
theorem truantref09_Reached.mono_l : ∀ k, (∀ y0 y1 y2 y3 y4 y5 y6 y7, LeO (truantref09_Reached.l0 k y0 y1 y2 y3 y4 y5 y6 y7) (truantref09_Reached.l0 (k + 1) y0 y1 y2 y3 y4 y5 y6 y7)) ∧ (∀ y0 y1 y2 y3 y4 y5 y6 y7 y8, LeO (truantref09_Reached.l1 k y0 y1 y2 y3 y4 y5 y6 y7 y8) (truantref09_Reached.l1 (k + 1) y0 y1 y2 y3 y4 y5 y6 y7 y8)) ∧ (∀ y0 y1 y2 y3 y4 y5 y6 y7 y8 y9 y10, LeO (truantref09_Reached.l2 k y0 y1 y2 y3 y4 y5 y6 y7 y8 y9 y10) (truantref09_Reached.l2 (k + 1) y0 y1 y2 y3 y4 y5 y6 y7 y8 y9 y10))
 | 0 => ⟨fun _ _ _ _ _ _ _ _ r h => by simp [truantref09_Reached.l0] at h, fun _ _ _ _ _ _ _ _ _ r h => by simp [truantref09_Reached.l1] at h, fun _ _ _ _ _ _ _ _ _ _ _ r h => by simp [truantref09_Reached.l2] at h⟩
 | k + 1 => by
  obtain ⟨ih0, ih1, ih2⟩ := truantref09_Reached.mono_l k
  refine ⟨?_, ?_, ?_⟩
  ·intro y0 y1 y2 y3 y4 y5 y6 y7
   unfold truantref09_Reached.l0
   repeat' first
   | (with_reducible exact ih0 _ _ _ _ _ _ _ _)
   | (with_reducible exact ih1 _ _ _ _ _ _ _ _ _)
   | (with_reducible exact ih2 _ _ _ _ _ _ _ _ _ _ _)
   | (with_reducible exact truantref09_Next.mono _ _ _ _ _ _ _ _)
   | (with_reducible exact LeO.refl _)
   | (with_reducible exact LeO.none _)
   | (with_reducible refine LeO.ite ?_ ?_)
   | (with_reducible refine LeO.bind ?_ (fun _ => ?_))
   | exact ih0 _ _ _ _ _ _ _ _
   | exact ih1 _ _ _ _ _ _ _ _ _
   | exact ih2 _ _ _ _ _ _ _ _ _ _ _
   | exact truantref09_Next.mono _ _ _ _ _ _ _ _
   | exact LeO.none _
   | refine LeO.ite ?_ ?_
   | refine LeO.bind ?_ (fun _ => ?_)
  ·intro y0 y1 y2 y3 y4 y5 y6 y7 y8
   unfold truantref09_Reached.l1
   repeat' first
   | (with_reducible exact ih0 _ _ _ _ _ _ _ _)
   | (with_reducible exact ih1 _ _ _ _ _ _ _ _ _)
   | (with_reducible exact ih2 _ _ _ _ _ _ _ _ _ _ _)
   | (with_reducible exact truantref09_Next.mono _ _ _ _ _ _ _ _)
   | (with_reducible exact LeO.refl _)
   | (with_reducible exact LeO.none _)
   | (with_reducible refine LeO.ite ?_ ?_)
   | (with_reducible refine LeO.bind ?_ (fun _ => ?_))
   | exact ih0 _ _ _ _ _ _ _ _
   | exact ih1 _ _ _ _ _ _ _ _ _
   | exact ih2 _ _ _ _ _ _ _ _ _ _ _
   | exact truantref09_Next.mono _ _ _ _ _ _ _ _
   | exact LeO.none _
   | refine LeO.ite ?_ ?_
   | refine LeO.bind ?_ (fun _ => ?_)
  ·intro y0 y1 y2 y3 y4 y5 y6 y7 y8 y9 y10
   unfold truantref09_Reached.l2
   repeat' first
   | (with_reducible exact ih0 _ _ _ _ _ _ _ _)
   | (with_reducible exact ih1 _ _ _ _ _ _ _ _ _)
   | (with_reducible exact ih2 _ _ _ _ _ _ _ _ _ _ _)
   | (with_reducible exact truantref09_Next.mono _ _ _ _ _ _ _ _)
   | (with_reducible exact LeO.refl _)
   | (with_reducible exact LeO.none _)
   | (with_reducible refine LeO.ite ?_ ?_)
   | (with_reducible refine LeO.bind ?_ (fun _ => ?_))
   | exact ih0 _ _ _ _ _ _ _ _
   | exact ih1 _ _ _ _ _ _ _ _ _
   | exact ih2 _ _ _ _ _ _ _ _ _ _ _
   | exact truantref09_Next.mono _ _ _ _ _ _ _ _
   | exact LeO.none _
   | refine LeO.ite ?_ ?_
   | refine LeO.bind ?_ (fun _ => ?_)
theorem truantref09_Reached.mono : ∀ a0 a1 a2 a3 a4 a5 k, LeO (truantref09_Reached.f k a0 a1 a2 a3 a4 a5) (truantref09_Reached.f (k + 1) a0 a1 a2 a3 a4 a5) := by
 intro a0 a1 a2 a3 a4 a5 k
 obtain ⟨ih0, ih1, ih2⟩ := truantref09_Reached.mono_l k
 unfold truantref09_Reached.f
 repeat' first
   | (with_reducible exact ih0 _ _ _ _ _ _ _ _)
   | (with_reducible exact ih1 _ _ _ _ _ _ _ _ _)
   | (with_reducible exact ih2 _ _ _ _ _ _ _ _ _ _ _)
   | (with_reducible exact truantref09_Next.mono _ _ _ _ _ _ _ _)
   | (with_reducible exact LeO.refl _)
   | (with_reducible exact LeO.none _)
   | (with_reducible refine LeO.ite ?_ ?_)
   | (with_reducible refine LeO.bind ?_ (fun _ => ?_))
   | exact ih0 _ _ _ _ _ _ _ _
   | exact ih1 _ _ _ _ _ _ _ _ _
   | exact ih2 _ _ _ _ _ _ _ _ _ _ _
   | exact truantref09_Next.mono _ _ _ _ _ _ _ _
   | exact LeO.none _
   | refine LeO.ite ?_ ?_
   | refine LeO.bind ?_ (fun _ => ?_)
set_option maxHeartbeats 8000000 in
set_option maxRecDepth 100000 in
theorem truantref09_Reached.calls (k : Nat) (a0_0 : ByteArray) (A0_1 : Option Addr) (c0_1 : Nat) (l0_1 : List ByteArray) (a0_2 : ByteArray) (A0_3 : Option Addr) (c0_3 : Nat) (l0_3 : List ByteArray) (A0_4 : Option Addr) (c0_4 : Nat) (l0_4 : List (S58)) (A0_5 : Option Addr) (c0_5 : Nat) (l0_5 : List (S40)) (r : List Bool) (w : World) (hr0_1 : Kd.C Kd.string w A0_1 l0_1.length l0_1) (hc0_1 : l0_1.length ≤ c0_1) (hr0_3 : Kd.C Kd.string w A0_3 l0_3.length l0_3) (hc0_3 : l0_3.length ≤ c0_3) (hr0_4 : Kd.C k58 w A0_4 l0_4.length l0_4) (hc0_4 : l0_4.length ≤ c0_4) (hr0_5 : Kd.C k40 w A0_5 l0_5.length l0_5) (hc0_5 : l0_5.length ≤ c0_5) (h : truantref09_Reached.f k a0_0 l0_1 a0_2 l0_3 l0_4 l0_5 = some r) :
  Calls Try.prog 18 #[.agg #[.string a0_0, .slice A0_1 l0_1.length c0_1, .string a0_2, .slice A0_3 l0_3.length c0_3, .slice A0_4 l0_4.length c0_4, .slice A0_5 l0_5.length c0_5]] w fun e w' => ∃ v0_ : Value, e = .returned (v0_) ∧ Kd.R Kd.bool 4 w' w.heap.size (fun _ => True) v0_ r ∧ Below w.heap.size w w' := by
 have hu26 := Try.underlying26
 have HR0_1 := Aside0.mk hr0_1
 have HC0_1 := Aside0.mk hc0_1
 clear hr0_1 hc0_1
 have HR0_3 := Aside0.mk hr0_3
 have HC0_3 := Aside0.mk hc0_3
 clear hr0_3 hc0_3
 have HR0_4 := Aside0.mk hr0_4
 have HC0_4 := Aside0.mk hc0_4
 clear hr0_4 hc0_4
 have HR0_5 := Aside0.mk hr0_5
 have HC0_5 := Aside0.mk hc0_5
 clear hr0_5 hc0_5
 have HB := Aside0.mk (Below.refl w.heap.size w)
 have H : (if 0 ≤ (l0_5.length : Int) then (if ((l0_5.length : Int) : Int).toNat ≤ 281474976710656 then ((some (List.replicate ((l0_5.length : Int) : Int).toNat false : List Bool)).bind fun y345 => (if (y345.length : Int) = 0 then (some y345) else (if 0 < (y345.length : Int) then (truantref09_Reached.l0 k (y345.set (0 : Int).toNat true) 0 a0_0 l0_1 a0_2 l0_3 l0_4 l0_5) else (none)))) else (none)) else (none)) = some r := h
 clear h
 by_cases c2 : 0 ≤ (l0_5.length : Int)
 ·rw [if_pos c2] at H
  have c2b0 := eq_true c2
  have c2b1 : decide (0 ≤ (l0_5.length : Int)) = true := decide_eq_true c2
  clear c2
  by_cases c3 : ((l0_5.length : Int) : Int).toNat ≤ 281474976710656
  ·rw [if_pos c3] at H
   have c3b0 := eq_true c3
   have c3b1 : decide (((l0_5.length : Int) : Int).toNat ≤ 281474976710656) = true := decide_eq_true c3
   clear c3
   obtain ⟨y345, hy345⟩ : ∃ y_ : List Bool, y_ = (List.replicate ((l0_5.length : Int) : Int).toNat false) := ⟨_, rfl⟩
   replace H : (if (y345.length : Int) = 0 then (some y345) else (if 0 < (y345.length : Int) then (truantref09_Reached.l0 k (y345.set (0 : Int).toNat true) 0 a0_0 l0_1 a0_2 l0_3 l0_4 l0_5) else (none))) = some r := by first | (rw [hy345]; with_reducible exact H) | (have H2_ := (Option.bind_some _ _).symm.trans H; rw [hy345]; with_reducible exact H2_) | (have H2_ := (Option.bind_some _ _).symm.trans H; with_reducible exact H2_) | with_reducible exact H | (rw [hy345]; exact H) | exact H
   have Ny345 := Aside0.mk hy345
   clear hy345
   by_cases c4 : (y345.length : Int) = 0
   ·rw [if_pos c4] at H
    have c4b0 : ((y345.length : Int) == 0) = true := beq_iff_eq.mpr c4
    have c4b1 : ((y345.length : Int) != 0) = false := bne_eq_false_iff_eq.mpr c4
    clear c4
    obtain rfl := Option.some.inj H
    go_enter Try.func18, Try.ntmps18
    go_wp2_with (first | ((with_reducible refine gate_dst (N := 1) rfl ?_); (try (refine gate_guard (by rfl) ?_; dsimp only)); refine box_event ?hg (N := 1) ?hd (cs := #[.string a0_0, .slice A0_1 l0_1.length c0_1, .string a0_2, .slice A0_3 l0_3.length c0_3, .slice A0_4 l0_4.length c0_4, .slice A0_5 l0_5.length c0_5]) (t := 26) ?hr ?_; (case hd => rfl); (case hg => rfl); (case hr => first | (go_simp; done) | (go_simp; rfl)); intro gb344 hg w5 hbox hb; have n0_ := Aside0.mk (below_step (by repeat (first | (with_reducible first | exact HB.out | apply below_alloc | apply pw_below_drewN | apply below_drew1) | exact HB.out)) hb); have n1_ := Aside0.mk (hbox); have n2_ := Aside0.mk ((by rw [hg]; exact (below_size (by repeat (first | (with_reducible first | exact HB.out | apply below_alloc | apply pw_below_drewN | apply below_drew1) | exact HB.out))) : w.heap.size ≤ gb344)); have n3_ := Aside0.mk ((by rw [hg]; exact (below_size (by repeat (first | (with_reducible first | exact HB.out | apply below_alloc | apply pw_below_drewN | apply below_drew1) | exact HB.out))) : w.heap.size ≤ gb344)); clear HB; have HB := n0_; have BK344 := n1_; have GW344 := n2_; have GE344 := n3_; clear n0_ n1_ n2_ n3_; clear hb hbox hg; have hcz6_0 : w5.cell? ⟨gb344, 0, none⟩ = some (.string a0_0) := (blk_cell BK344.out 0).trans rfl; have hcz6_1 : w5.cell? ⟨gb344, 1, none⟩ = some (.slice A0_1 l0_1.length c0_1) := (blk_cell BK344.out 1).trans rfl; have hcz6_2 : w5.cell? ⟨gb344, 2, none⟩ = some (.string a0_2) := (blk_cell BK344.out 2).trans rfl; have hcz6_3 : w5.cell? ⟨gb344, 3, none⟩ = some (.slice A0_3 l0_3.length c0_3) := (blk_cell BK344.out 3).trans rfl; have hcz6_4 : w5.cell? ⟨gb344, 4, none⟩ = some (.slice A0_4 l0_4.length c0_4) := (blk_cell BK344.out 4).trans rfl; have hcz6_5 : w5.cell? ⟨gb344, 5, none⟩ = some (.slice A0_5 l0_5.length c0_5) := (blk_cell BK344.out 5).trans rfl; have hfz6_0 := blk_frozen BK344.out 0; have hfz6_1 := blk_frozen BK344.out 1; have hfz6_2 := blk_frozen BK344.out 2; have hfz6_3 := blk_frozen BK344.out 3; have hfz6_4 := blk_frozen BK344.out 4; have hfz6_5 := blk_frozen BK344.out 5) | ((with_reducible refine gate_dst (N := 11) rfl ?_); (try (refine gate_guard (by rfl) ?_; dsimp only)); refine Kd.R_make Kd.bool _ 4 rfl (N := 11) rfl 31 _ _ rfl (l0_5.length : Int) rfl rfl Try.underlying31 (.bool false) 1 info4 rfl (by decide) (by omega) false (ok := fun _ => True) (okp := fun _ => True) rfl (fun _ hk => hk) trivial (of_decide_eq_true (by first | (with_reducible assumption) | assumption)) (Nat.le_trans (Nat.mul_le_mul_right _ (of_decide_eq_true (by first | (with_reducible assumption) | assumption) : (l0_5.length : Int).toNat ≤ 281474976710656)) (by omega)) (Below.refl _ _) (Nat.le_refl _) ?_; intro v346 w7 ho8 hb hg_ hnew_; clear hg_ hnew_; (first | rw [← Ny345.out] at ho8 | (simp only [Int.reduceToNat] at ho8; rw [← Ny345.out] at ho8)); have n0_ := Aside0.mk (Kd.R_lower ho8 (below_size (by repeat (first | (with_reducible first | exact HB.out | apply below_alloc | apply pw_below_drewN | apply below_drew1 | refine below_set ?_ GE344.out) | exact HB.out)))); have n1_ := Aside0.mk (blk_below (g := gb344) (o := .cells #[.string a0_0, .slice A0_1 l0_1.length c0_1, .string a0_2, .slice A0_3 l0_3.length c0_3, .slice A0_4 l0_4.length c0_4, .slice A0_5 l0_5.length c0_5] 26 (0, 0)) (by (with_reducible repeat (first | refine blk_drewN ?_ _ | refine blk_drew ?_ | refine blk_alloc ?_ _)); exact BK344.out) hb); have n2_ := Aside0.mk (below_step (by repeat (first | (with_reducible first | exact HB.out | apply below_alloc | apply pw_below_drewN | apply below_drew1 | refine below_set ?_ GE344.out) | exact HB.out)) hb); clear BK344; clear HB; have HO347 := n0_; have BK344 := n1_; have HB := n2_; clear n0_ n1_ n2_; clear hb ho8; obtain ⟨Ao9, co9, eo9⟩ := Kd.R_slice HO347.out; subst eo9))
    go_ret
    exact ⟨_, by first | rfl | (simp [errW_none, errW_some] <;> rfl) | (simp [*, errW_none, errW_some] <;> rfl), by (with_reducible repeat (first | apply Kd.R_alloc | apply Kd.R_drewN | apply Kd.R_drew)); exact HO347.out, by repeat (first | (with_reducible first | exact HB.out | apply below_alloc | apply pw_below_drewN | apply below_drew1 | refine below_set ?_ GE344.out) | exact HB.out)⟩
   ·rw [if_neg c4] at H
    have c4b0 : ((y345.length : Int) == 0) = false := beq_eq_false_iff_ne.mpr c4
    have c4b1 : ((y345.length : Int) != 0) = true := bne_iff_ne.mpr c4
    have c4b2 : ¬ (y345 = []) := fun h_ => c4 (by rw [h_]; rfl)
    by_cases c10 : 0 < (y345.length : Int)
    ·rw [if_pos c10] at H
     have c10b0 : decide (0 < (y345.length : Int)) = true := decide_eq_true c10
     have c10b1 : decide (0 < y345.length) = true := decide_eq_true (by omega)
     clear c10
     obtain ⟨y348, hy348⟩ : ∃ y_ : List Bool, y_ = (y345.set (0 : Int).toNat true) := ⟨_, rfl⟩
     replace H : (truantref09_Reached.l0 k y348 0 a0_0 l0_1 a0_2 l0_3 l0_4 l0_5) = some r := by first | (rw [hy348]; with_reducible exact H) | (have H2_ := (Option.bind_some _ _).symm.trans H; rw [hy348]; with_reducible exact H2_) | (have H2_ := (Option.bind_some _ _).symm.trans H; with_reducible exact H2_) | with_reducible exact H | (rw [hy348]; exact H) | exact H
     have Ny348 := Aside0.mk hy348
     clear hy348
     have H' := Aside0.mk H
     clear H
     go_enter Try.func18, Try.ntmps18
     go_wp2_with (first | ((with_reducible refine gate_dst (N := 1) rfl ?_); (try (refine gate_guard (by rfl) ?_; dsimp only)); refine box_event ?hg (N := 1) ?hd (cs := #[.string a0_0, .slice A0_1 l0_1.length c0_1, .string a0_2, .slice A0_3 l0_3.length c0_3, .slice A0_4 l0_4.length c0_4, .slice A0_5 l0_5.length c0_5]) (t := 26) ?hr ?_; (case hd => rfl); (case hg => rfl); (case hr => first | (go_simp; done) | (go_simp; rfl)); intro gb344 hg w12 hbox hb; have n0_ := Aside0.mk (below_step (by repeat (first | (with_reducible first | exact HB.out | apply below_alloc | apply pw_below_drewN | apply below_drew1) | exact HB.out)) hb); have n1_ := Aside0.mk (hbox); have n2_ := Aside0.mk ((by rw [hg]; exact (below_size (by repeat (first | (with_reducible first | exact HB.out | apply below_alloc | apply pw_below_drewN | apply below_drew1) | exact HB.out))) : w.heap.size ≤ gb344)); have n3_ := Aside0.mk ((by rw [hg]; exact (below_size (by repeat (first | (with_reducible first | exact HB.out | apply below_alloc | apply pw_below_drewN | apply below_drew1) | exact HB.out))) : w.heap.size ≤ gb344)); clear HB; have HB := n0_; have BK344 := n1_; have GW344 := n2_; have GE344 := n3_; clear n0_ n1_ n2_ n3_; clear hb hbox hg; have hcz13_0 : w12.cell? ⟨gb344, 0, none⟩ = some (.string a0_0) := (blk_cell BK344.out 0).trans rfl; have hcz13_1 : w12.cell? ⟨gb344, 1, none⟩ = some (.slice A0_1 l0_1.length c0_1) := (blk_cell BK344.out 1).trans rfl; have hcz13_2 : w12.cell? ⟨gb344, 2, none⟩ = some (.string a0_2) := (blk_cell BK344.out 2).trans rfl; have hcz13_3 : w12.cell? ⟨gb344, 3, none⟩ = some (.slice A0_3 l0_3.length c0_3) := (blk_cell BK344.out 3).trans rfl; have hcz13_4 : w12.cell? ⟨gb344, 4, none⟩ = some (.slice A0_4 l0_4.length c0_4) := (blk_cell BK344.out 4).trans rfl; have hcz13_5 : w12.cell? ⟨gb344, 5, none⟩ = some (.slice A0_5 l0_5.length c0_5) := (blk_cell BK344.out 5).trans rfl; have hfz13_0 := blk_frozen BK344.out 0; have hfz13_1 := blk_frozen BK344.out 1; have hfz13_2 := blk_frozen BK344.out 2; have hfz13_3 := blk_frozen BK344.out 3; have hfz13_4 := blk_frozen BK344.out 4; have hfz13_5 := blk_frozen BK344.out 5) | ((with_reducible refine gate_dst (N := 11) rfl ?_); (try (refine gate_guard (by rfl) ?_; dsimp only)); refine Kd.R_make Kd.bool _ 4 rfl (N := 11) rfl 31 _ _ rfl (l0_5.length : Int) rfl rfl Try.underlying31 (.bool false) 1 info4 rfl (by decide) (by omega) false (ok := fun _ => True) (okp := fun _ => True) rfl (fun _ hk => hk) trivial (of_decide_eq_true (by first | (with_reducible assumption) | assumption)) (Nat.le_trans (Nat.mul_le_mul_right _ (of_decide_eq_true (by first | (with_reducible assumption) | assumption) : (l0_5.length : Int).toNat ≤ 281474976710656)) (by omega)) (Below.refl _ _) (Nat.le_refl _) ?_; intro v346 w14 ho15 hb hg_ hnew_; clear hg_ hnew_; (first | rw [← Ny345.out] at ho15 | (simp only [Int.reduceToNat] at ho15; rw [← Ny345.out] at ho15)); have n0_ := Aside0.mk (Kd.R_lower ho15 (below_size (by repeat (first | (with_reducible first | exact HB.out | apply below_alloc | apply pw_below_drewN | apply below_drew1 | refine below_set ?_ GE344.out) | exact HB.out)))); have n1_ := Aside0.mk (blk_below (g := gb344) (o := .cells #[.string a0_0, .slice A0_1 l0_1.length c0_1, .string a0_2, .slice A0_3 l0_3.length c0_3, .slice A0_4 l0_4.length c0_4, .slice A0_5 l0_5.length c0_5] 26 (0, 0)) (by (with_reducible repeat (first | refine blk_drewN ?_ _ | refine blk_drew ?_ | refine blk_alloc ?_ _)); exact BK344.out) hb); have n2_ := Aside0.mk (below_step (by repeat (first | (with_reducible first | exact HB.out | apply below_alloc | apply pw_below_drewN | apply below_drew1 | refine below_set ?_ GE344.out) | exact HB.out)) hb); clear BK344; clear HB; have HO347 := n0_; have BK344 := n1_; have HB := n2_; clear n0_ n1_ n2_; clear hb ho15; obtain ⟨Ao16, co16, eo16⟩ := Kd.R_slice HO347.out; subst eo16; have p11 : 0 ≤ (0 : Int) := (by omega); have q11 : (0 : Int) < ((y345.length : Int) : Int) := of_decide_eq_true (by first | (with_reducible assumption) | assumption); have qi11 : (0 < y345.length) = True := eq_true (by omega); obtain ⟨go11, co11, eo11, gb11, gl11, cl11, HG11⟩ := Kd.R_form HO347.out (by omega); (first | cases eo11 | (injection eo11 with ea_ en_ ec_; (first | subst ea_ | (injection ea_ with ea_; subst ea_)); subst ec_; clear en_)); have GB11 := Aside0.mk gb11; have GG11 := Aside0.mk HG11; clear gb11 gl11 HG11; obtain ⟨hx11_0, hf11_0⟩ := Kd.R_celln false HO347.out (0 : Int) p11 q11; (try rw [show ((0 : Int)).toNat = 0 from rfl] at hx11_0); (try simp only [Nat.reduceMul, Nat.zero_mul, Nat.zero_add, Nat.reduceAdd] at hx11_0); (try rw [show ((0 : Int)).toNat = 0 from rfl] at hf11_0); (try simp only [Nat.reduceMul, Nat.zero_mul, Nat.zero_add, Nat.reduceAdd] at hf11_0); replace p11 := eq_true p11; replace q11 := eq_true q11; obtain ⟨hy17_, hz17_⟩ := Kd.R_celln false HO347.out (0 : Int) (by omega) (of_decide_eq_true (by first | (with_reducible assumption) | assumption)); (try simp only [Int.reduceToNat, Int.toNat_zero, Int.toNat_ofNat, Nat.reduceMul, Nat.zero_mul, Nat.zero_add] at hy17_ hz17_); (try rw [show ((0 : Int)).toNat = 0 from rfl] at hy17_); (try rw [show ((0 : Int)).toNat = 0 from rfl] at hz17_); have HP17 := Kd.R_putg HO347.out (0 : Int) true) | ((with_reducible refine gate_store (t := 4) (p := 17) rfl ?_); refine store_event (t := 4) (p := 17) (v := ?vo_w18) (w1 := (w14.setCell ⟨go11, (0 : Int).toNat, none⟩ (.bool true))) ?hg ?ho ?hn ?hr ?_; (case ho => rfl); (case hg => rfl); (case hn => rfl); (case hr => first | (go_simp; done) | (go_simp; rfl)); intro w18 hw; have hg : w14.grownBy w18 (some go11) := (by rw [hw]; exact HP17.2); have hp_ : Kd.R Kd.bool 4 w18 w.heap.size (fun _ => True) (.slice (some ⟨go11, 0, none⟩) y345.length co16) y348 := (by rw [hw, Ny348.out]; exact HP17.1); clear HP17; have n0_ := Aside0.mk (blk_grown (g := gb344) (o := .cells #[.string a0_0, .slice A0_1 l0_1.length c0_1, .string a0_2, .slice A0_3 l0_3.length c0_3, .slice A0_4 l0_4.length c0_4, .slice A0_5 l0_5.length c0_5] 26 (0, 0)) (by (with_reducible repeat (first | refine blk_drewN ?_ _ | refine blk_drew ?_ | refine blk_alloc ?_ _)); exact BK344.out) hg (Kd.R_ne HO347.out BK344.out (by decide))); have n1_ := Aside0.mk (hp_); have n2_ := Aside0.mk ((by rw [hw]; exact below_set (HB.out) GB11.out : Below w.heap.size w w18)); clear BK344; clear HO347; clear HB; have BK344 := n0_; have HO347 := n1_; have HB := n2_; clear n0_ n1_ n2_; clear hg hw hp_))
     go_loopg [4] k (fun kq v4 w' => ∃ (x3_1 : List Bool) (x4_1 : Int), v4 = .int .i64 x4_1 ∧ Aside0 (truantref09_Reached.l0 kq x3_1 x4_1 a0_0 l0_1 a0_2 l0_3 l0_4 l0_5 = some r) ∧ Aside0 (kq ≤ k) ∧ Aside0 (Kd.R Kd.bool 4 w' w.heap.size (fun _ => True) (.slice (some ⟨go11, 0, none⟩) y345.length co16) x3_1) ∧ Aside0 (w'.heap[gb344]? = some (.cells #[.string a0_0, (.slice A0_1 l0_1.length c0_1), .string a0_2, (.slice A0_3 l0_3.length c0_3), (.slice A0_4 l0_4.length c0_4), (.slice A0_5 l0_5.length c0_5)] 26 (0, 0))) ∧ Aside0 (Below w.heap.size w w'))
     case atStart => exact ⟨(y348), (0), (by first | rfl | (simp; done) | (simp [*]; done)), H', ⟨Nat.le_refl _⟩, ⟨by (with_reducible repeat (first | apply Kd.R_alloc | apply Kd.R_drewN | apply Kd.R_drew)); exact HO347.out⟩, ⟨by (with_reducible repeat (first | refine blk_drewN ?_ _ | refine blk_drew ?_ | refine blk_alloc ?_ _)); exact BK344.out⟩, ⟨by repeat (first | (with_reducible first | exact HB.out | apply below_alloc | apply pw_below_drewN | apply below_drew1 | refine below_set ?_ GE344.out) | exact HB.out)⟩⟩
     case round =>
      clear H'
      try clear c1
      try clear p1
      try clear q1
      try clear hx1
      try clear qi1
      try clear hf1
      try clear c2
      try clear c2b0
      try clear c2b1
      try clear p2
      try clear c3
      try clear c3b0
      try clear c3b1
      try clear c4
      try clear c4b0
      try clear c4b1
      try clear c4b2
      try clear c10
      try clear c10b0
      try clear c10b1
      try clear p11
      try clear q11
      try clear hx11
      try clear qi11
      try clear hf11
      try clear c18
      try clear hcz13_0
      try clear hcz13_1
      try clear hcz13_2
      try clear hcz13_3
      try clear hcz13_4
      try clear hcz13_5
      try clear hcz6_0
      try clear hcz6_1
      try clear hcz6_2
      try clear hcz6_3
      try clear hcz6_4
      try clear hcz6_5
      try clear hfz13_0
      try clear hfz13_1
      try clear hfz13_2
      try clear hfz13_3
      try clear hfz13_4
      try clear hfz13_5
      try clear hfz6_0
      try clear hfz6_1
      try clear hfz6_2
      try clear hfz6_3
      try clear hfz6_4
      try clear hfz6_5
      try clear hx11_0
      try clear p11
      try clear q11
      obtain ⟨x3_1, x4_1, rfl, HA, HK1, HO_3, BK344, HB⟩ := hrel
      have hl3_1 := (Kd.R_reads' HO_3.out).1
      rw [hl3_1] at HO_3
      (try simp only [hl3_1])
      (try simp only [hl3_1] at BK344)
      cases gk with
      | zero => exact absurd HA.out (by simp [truantref09_Reached.l0])
      | succ k1 =>
       have H := HA.out
       clear HA
       simp only [truantref09_Reached.l0] at H
       by_cases c19 : x4_1 < (x3_1.length : Int)
       ·rw [if_pos c19] at H
        have c19b0 : decide (x4_1 < (x3_1.length : Int)) = true := decide_eq_true c19
        clear c19
        have H' := Aside0.mk H
        clear H
        go_wp2
        go_loopg [5] k1 (fun kq v5 w' => ∃ (x3_2 : List Bool) (x5_2 : Int), v5 = .int .i64 x5_2 ∧ Aside0 (truantref09_Reached.l1 kq x3_2 x4_1 x5_2 a0_0 l0_1 a0_2 l0_3 l0_4 l0_5 = some r) ∧ Aside0 (kq ≤ k1) ∧ Aside0 (Kd.R Kd.bool 4 w' w.heap.size (fun _ => True) (.slice (some ⟨go11, 0, none⟩) x3_1.length co16) x3_2) ∧ Aside0 (w'.heap[gb344]? = some (.cells #[.string a0_0, (.slice A0_1 l0_1.length c0_1), .string a0_2, (.slice A0_3 l0_3.length c0_3), (.slice A0_4 l0_4.length c0_4), (.slice A0_5 l0_5.length c0_5)] 26 (0, 0))) ∧ Aside0 (Below w.heap.size w w'))
        case atStart => exact ⟨(x3_1), (0), (by first | rfl | (simp; done) | (simp [*]; done)), H', ⟨Nat.le_refl _⟩, ⟨by (try simp only [hl3_1]); (with_reducible repeat (first | apply Kd.R_alloc | apply Kd.R_drewN | apply Kd.R_drew)); exact HO_3.out⟩, ⟨by (try simp only [hl3_1]); (with_reducible repeat (first | refine blk_drewN ?_ _ | refine blk_drew ?_ | refine blk_alloc ?_ _)); exact BK344.out⟩, ⟨by repeat (first | (with_reducible first | exact HB.out | apply below_alloc | apply pw_below_drewN | apply below_drew1 | refine below_set ?_ GE344.out) | exact HB.out)⟩⟩
        case round =>
         clear H'
         try clear c1
         try clear p1
         try clear q1
         try clear hx1
         try clear qi1
         try clear hf1
         try clear c2
         try clear c2b0
         try clear c2b1
         try clear p2
         try clear c3
         try clear c3b0
         try clear c3b1
         try clear c4
         try clear c4b0
         try clear c4b1
         try clear c4b2
         try clear c10
         try clear c10b0
         try clear c10b1
         try clear p11
         try clear q11
         try clear hx11
         try clear qi11
         try clear hf11
         try clear c18
         try clear c19
         try clear c19b0
         try clear hcz13_0
         try clear hcz13_1
         try clear hcz13_2
         try clear hcz13_3
         try clear hcz13_4
         try clear hcz13_5
         try clear hcz6_0
         try clear hcz6_1
         try clear hcz6_2
         try clear hcz6_3
         try clear hcz6_4
         try clear hcz6_5
         try clear hfz13_0
         try clear hfz13_1
         try clear hfz13_2
         try clear hfz13_3
         try clear hfz13_4
         try clear hfz13_5
         try clear hfz6_0
         try clear hfz6_1
         try clear hfz6_2
         try clear hfz6_3
         try clear hfz6_4
         try clear hfz6_5
         try clear hx11_0
         try clear p1
         try clear p11
         try clear p2
         try clear q1
         try clear q11
         obtain ⟨x3_2, x5_2, rfl, HA, HK2, HO_3, BK344, HB⟩ := hrel
         have hl3_2 := (Kd.R_reads' HO_3.out).1
         rw [hl3_2] at HO_3
         (try simp only [hl3_2])
         (try simp only [hl3_2] at BK344)
         cases gk with
         | zero => exact absurd HA.out (by simp [truantref09_Reached.l1])
         | succ k2 =>
          have H := HA.out
          clear HA
          simp only [truantref09_Reached.l1] at H
          by_cases c20 : x5_2 < (x3_2.length : Int)
          ·rw [if_pos c20] at H
           have c20b0 : decide (x5_2 < (x3_2.length : Int)) = true := decide_eq_true c20
           clear c20
           replace H := Option.bind_eq_some_iff.mp H
           obtain ⟨t349, A210, H⟩ := H
           replace H : (truantref09_Reached.l2 k2 x3_2 x4_1 x5_2 t349 0 a0_0 l0_1 a0_2 l0_3 l0_4 l0_5) = some r := H
           have A21 := Aside0.mk A210
           clear A210
           have H' := Aside0.mk H
           clear H
           have hcz22_0 : wr.cell? ⟨gb344, 0, none⟩ = some (.string a0_0) := (blk_cell BK344.out 0).trans rfl
           have hcz22_1 : wr.cell? ⟨gb344, 1, none⟩ = some (.slice A0_1 l0_1.length c0_1) := (blk_cell BK344.out 1).trans rfl
           have hcz22_2 : wr.cell? ⟨gb344, 2, none⟩ = some (.string a0_2) := (blk_cell BK344.out 2).trans rfl
           have hcz22_3 : wr.cell? ⟨gb344, 3, none⟩ = some (.slice A0_3 l0_3.length c0_3) := (blk_cell BK344.out 3).trans rfl
           have hcz22_4 : wr.cell? ⟨gb344, 4, none⟩ = some (.slice A0_4 l0_4.length c0_4) := (blk_cell BK344.out 4).trans rfl
           have hcz22_5 : wr.cell? ⟨gb344, 5, none⟩ = some (.slice A0_5 l0_5.length c0_5) := (blk_cell BK344.out 5).trans rfl
           have hfz22_0 := blk_frozen BK344.out 0
           have hfz22_1 := blk_frozen BK344.out 1
           have hfz22_2 := blk_frozen BK344.out 2
           have hfz22_3 := blk_frozen BK344.out 3
           have hfz22_4 := blk_frozen BK344.out 4
           have hfz22_5 := blk_frozen BK344.out 5
           go_wp2_with (first | ((with_reducible refine gate_callee (f := 21) rfl ?_); refine goesL_ (some 32) rfl rfl Try.func21 (by kernel_rfl) rfl #[.agg #[.string a0_0, .slice A0_1 l0_1.length c0_1, .string a0_2, .slice A0_3 l0_3.length c0_3, .slice A0_4 l0_4.length c0_4, .slice A0_5 l0_5.length c0_5], .int .i64 x5_2] rfl (by (try simp only [List.map_toArray, List.map_cons, List.map_nil]); first | done | rfl | (simp only [List.length_drop, List.length_take]; rfl)) ?_; (with_reducible refine (truantref09_Next.calls k2 a0_0 _ _ l0_1 a0_2 _ _ l0_3 _ _ l0_4 _ _ l0_5 x5_2 t349 _ ?side1 ?side2 ?side3 ?side4 ?side5 ?side6 ?side7 ?side8 A21.out).mono ?_); (case side1 => repeat (first | exact (Kd.C_below HR0_1.out HB.out) | (with_reducible refine Kd.C_alloc ?_ _) | (with_reducible refine Kd.C_drewN ?_ _) | (with_reducible refine Kd.C_drew ?_))); (case side2 => exact HC0_1.out); (case side3 => repeat (first | exact (Kd.C_below HR0_3.out HB.out) | (with_reducible refine Kd.C_alloc ?_ _) | (with_reducible refine Kd.C_drewN ?_ _) | (with_reducible refine Kd.C_drew ?_))); (case side4 => exact HC0_3.out); (case side5 => repeat (first | exact (Kd.C_below HR0_4.out HB.out) | (with_reducible refine Kd.C_alloc ?_ _) | (with_reducible refine Kd.C_drewN ?_ _) | (with_reducible refine Kd.C_drew ?_))); (case side6 => exact HC0_4.out); (case side7 => repeat (first | exact (Kd.C_below HR0_5.out HB.out) | (with_reducible refine Kd.C_alloc ?_ _) | (with_reducible refine Kd.C_drewN ?_ _) | (with_reducible refine Kd.C_drew ?_))); (case side8 => exact HC0_5.out); rintro e w23 ⟨v350, rfl, ho0, hb⟩; refine ⟨_, rfl, ?_⟩; have n0_ := Aside0.mk (Kd.R_below (by (with_reducible repeat (first | apply Kd.R_alloc | apply Kd.R_drewN | apply Kd.R_drew)); exact HO_3.out) hb); have n1_ := Aside0.mk (Kd.R_lower ho0 (below_size (by repeat (first | (with_reducible first | exact HB.out | apply below_alloc | apply pw_below_drewN | apply below_drew1 | refine below_set ?_ GE344.out) | exact HB.out)))); have n2_ := Aside0.mk (blk_below (g := gb344) (o := .cells #[.string a0_0, .slice A0_1 l0_1.length c0_1, .string a0_2, .slice A0_3 l0_3.length c0_3, .slice A0_4 l0_4.length c0_4, .slice A0_5 l0_5.length c0_5] 26 (0, 0)) (by (with_reducible repeat (first | refine blk_drewN ?_ _ | refine blk_drew ?_ | refine blk_alloc ?_ _)); exact BK344.out) hb); have n3_ := Aside0.mk (below_step (by repeat (first | (with_reducible first | exact HB.out | apply below_alloc | apply pw_below_drewN | apply below_drew1 | refine below_set ?_ GE344.out) | exact HB.out)) hb); clear HO_3; clear BK344; clear HB; have HO_3 := n0_; have HO351 := n1_; have BK344 := n2_; have HB := n3_; clear n0_ n1_ n2_ n3_; (try clear hb); (try clear hb2); (try clear hk); (try clear hi); (try clear ho0)))
           go_loopg [7] k2 (fun kq v7 w' => ∃ (x3_3 : List Bool) (x7_3 : Int), v7 = .int .i64 x7_3 ∧ Aside0 (truantref09_Reached.l2 kq x3_3 x4_1 x5_2 t349 x7_3 a0_0 l0_1 a0_2 l0_3 l0_4 l0_5 = some r) ∧ Aside0 (kq ≤ k2) ∧ Aside0 (Kd.R Kd.bool 4 w' w.heap.size (fun _ => True) (.slice (some ⟨go11, 0, none⟩) x3_2.length co16) x3_3) ∧ Aside0 (Kd.R (Kd.int .i64) 3 w' w.heap.size (fun _ => True) v350 t349) ∧ Aside0 (w'.heap[gb344]? = some (.cells #[.string a0_0, (.slice A0_1 l0_1.length c0_1), .string a0_2, (.slice A0_3 l0_3.length c0_3), (.slice A0_4 l0_4.length c0_4), (.slice A0_5 l0_5.length c0_5)] 26 (0, 0))) ∧ Aside0 (Below w.heap.size w w'))
           case atStart => exact ⟨(x3_2), (0), (by first | rfl | (simp; done) | (simp [*]; done)), H', ⟨Nat.le_refl _⟩, ⟨by (try simp only [hl3_1]); (try simp only [hl3_2]); (with_reducible repeat (first | apply Kd.R_alloc | apply Kd.R_drewN | apply Kd.R_drew)); exact HO_3.out⟩, ⟨by (try simp only [hl3_1]); (try simp only [hl3_2]); (with_reducible repeat (first | apply Kd.R_alloc | apply Kd.R_drewN | apply Kd.R_drew)); exact HO351.out⟩, ⟨by (try simp only [hl3_1]); (try simp only [hl3_2]); (with_reducible repeat (first | refine blk_drewN ?_ _ | refine blk_drew ?_ | refine blk_alloc ?_ _)); exact BK344.out⟩, ⟨by repeat (first | (with_reducible first | exact HB.out | apply below_alloc | apply pw_below_drewN | apply below_drew1 | refine below_set ?_ GE344.out) | exact HB.out)⟩⟩
           case round =>
            clear H'
            try clear c1
            try clear p1
            try clear q1
            try clear hx1
            try clear qi1
            try clear hf1
            try clear c2
            try clear c2b0
            try clear c2b1
            try clear p2
            try clear c3
            try clear c3b0
            try clear c3b1
            try clear c4
            try clear c4b0
            try clear c4b1
            try clear c4b2
            try clear c10
            try clear c10b0
            try clear c10b1
            try clear p11
            try clear q11
            try clear hx11
            try clear qi11
            try clear hf11
            try clear c18
            try clear c19
            try clear c19b0
            try clear c20
            try clear c20b0
            try clear c21
            try clear hcz13_0
            try clear hcz13_1
            try clear hcz13_2
            try clear hcz13_3
            try clear hcz13_4
            try clear hcz13_5
            try clear hcz22_0
            try clear hcz22_1
            try clear hcz22_2
            try clear hcz22_3
            try clear hcz22_4
            try clear hcz22_5
            try clear hcz6_0
            try clear hcz6_1
            try clear hcz6_2
            try clear hcz6_3
            try clear hcz6_4
            try clear hcz6_5
            try clear hfz13_0
            try clear hfz13_1
            try clear hfz13_2
            try clear hfz13_3
            try clear hfz13_4
            try clear hfz13_5
            try clear hfz22_0
            try clear hfz22_1
            try clear hfz22_2
            try clear hfz22_3
            try clear hfz22_4
            try clear hfz22_5
            try clear hfz6_0
            try clear hfz6_1
            try clear hfz6_2
            try clear hfz6_3
            try clear hfz6_4
            try clear hfz6_5
            try clear hx11_0
            try clear p1
            try clear p11
            try clear p2
            try clear q1
            try clear q11
            obtain ⟨x3_3, x7_3, rfl, HA, HK3, HO_3, HO_6, BK344, HB⟩ := hrel
            have hl3_3 := (Kd.R_reads' HO_3.out).1
            rw [hl3_3] at HO_3
            (try simp only [hl3_3])
            (try simp only [hl3_3] at BK344)
            (try simp only [hl3_3] at HO_6)
            cases gk with
            | zero => exact absurd HA.out (by simp [truantref09_Reached.l2])
            | succ k3 =>
             have H := HA.out
             clear HA
             simp only [truantref09_Reached.l2] at H
             by_cases c24 : 0 ≤ x5_2
             ·rw [if_pos c24] at H
              have c24b0 : decide (0 ≤ x5_2) = true := decide_eq_true c24
              clear c24
              by_cases c25 : x5_2 < (x3_3.length : Int)
              ·rw [if_pos c25] at H
               have c25b0 : decide (x5_2 < (x3_3.length : Int)) = true := decide_eq_true c25
               clear c25
               obtain ⟨bq26, hbq26⟩ : ∃ b_ : Bool, b_ = (rdOf false x3_3 x5_2) := ⟨_, rfl⟩
               replace H : (if bq26 = true then (if x7_3 < (t349.length : Int) then (if 0 ≤ x7_3 then (if 0 ≤ (rd t349 x7_3) then (if (rd t349 x7_3) < (x3_3.length : Int) then (truantref09_Reached.l2 k3 (x3_3.set ((rd t349 x7_3) : Int).toNat true) x4_1 x5_2 t349 (wrap64 (x7_3 + 1)) a0_0 l0_1 a0_2 l0_3 l0_4 l0_5) else (none)) else (none)) else (none)) else (truantref09_Reached.l1 k3 x3_3 x4_1 (wrap64 (x5_2 + 1)) a0_0 l0_1 a0_2 l0_3 l0_4 l0_5)) else (truantref09_Reached.l1 k3 x3_3 x4_1 (wrap64 (x5_2 + 1)) a0_0 l0_1 a0_2 l0_3 l0_4 l0_5)) = some r := by rw [← hbq26] at H; exact H
               have Nbq26 := Aside0.mk hbq26
               clear hbq26
               by_cases c27 : bq26 = true
               ·subst c27
                have H1 : (if x7_3 < (t349.length : Int) then (if 0 ≤ x7_3 then (if 0 ≤ (rd t349 x7_3) then (if (rd t349 x7_3) < (x3_3.length : Int) then (truantref09_Reached.l2 k3 (x3_3.set ((rd t349 x7_3) : Int).toNat true) x4_1 x5_2 t349 (wrap64 (x7_3 + 1)) a0_0 l0_1 a0_2 l0_3 l0_4 l0_5) else (none)) else (none)) else (none)) else (truantref09_Reached.l1 k3 x3_3 x4_1 (wrap64 (x5_2 + 1)) a0_0 l0_1 a0_2 l0_3 l0_4 l0_5)) = some r := by rw [if_pos rfl] at H; exact H
                clear H
                have H := H1
                clear H1
                by_cases c28 : x7_3 < (t349.length : Int)
                ·rw [if_pos c28] at H
                 have c28b0 : decide (x7_3 < (t349.length : Int)) = true := decide_eq_true c28
                 clear c28
                 by_cases c29 : 0 ≤ x7_3
                 ·rw [if_pos c29] at H
                  have c29b0 : decide (0 ≤ x7_3) = true := decide_eq_true c29
                  clear c29
                  by_cases c30 : 0 ≤ (rd t349 x7_3)
                  ·rw [if_pos c30] at H
                   have c30b0 : decide (0 ≤ (rd t349 x7_3)) = true := decide_eq_true c30
                   clear c30
                   by_cases c31 : (rd t349 x7_3) < (x3_3.length : Int)
                   ·rw [if_pos c31] at H
                    have c31b0 : decide ((rd t349 x7_3) < (x3_3.length : Int)) = true := decide_eq_true c31
                    clear c31
                    obtain ⟨y354, hy354⟩ : ∃ y_ : List Bool, y_ = (x3_3.set ((rd t349 x7_3) : Int).toNat true) := ⟨_, rfl⟩
                    replace H : (truantref09_Reached.l2 k3 y354 x4_1 x5_2 t349 (wrap64 (x7_3 + 1)) a0_0 l0_1 a0_2 l0_3 l0_4 l0_5) = some r := by first | (rw [hy354]; with_reducible exact H) | (have H2_ := (Option.bind_some _ _).symm.trans H; rw [hy354]; with_reducible exact H2_) | (have H2_ := (Option.bind_some _ _).symm.trans H; with_reducible exact H2_) | with_reducible exact H | (rw [hy354]; exact H) | exact H
                    have Ny354 := Aside0.mk hy354
                    clear hy354
                    have H' := Aside0.mk H
                    clear H
                    have p352 : 0 ≤ (x5_2 : Int) := of_decide_eq_true (by first | (with_reducible assumption) | assumption)
                    have q352 : x5_2 < (x3_3.length : Int) := of_decide_eq_true (by first | (with_reducible assumption) | assumption)
                    obtain ⟨ad352, e352, hx352_0⟩ := Kd.at_bool (Kd.R_reads' HO_3.out).2.2 x5_2 p352 q352
                    (try rw [← Nbq26.out] at hx352_0)
                    obtain rfl : (⟨go11, 0, none⟩ : Addr) = ad352 := (by injection e352)
                    (first | simp only [add_plain] at hx352_0 | simp only [add_at] at hx352_0 | simp only [Addr.add, Nat.zero_add] at hx352_0 | skip)
                    replace p352 := eq_true p352
                    replace q352 := eq_true q352
                    obtain ⟨Ao33, co33, eo33⟩ := Kd.R_slice HO_6.out
                    subst eo33
                    have p353 : 0 ≤ (x7_3 : Int) := of_decide_eq_true (by first | (with_reducible assumption) | assumption)
                    have q353 : x7_3 < (t349.length : Int) := of_decide_eq_true (by first | (with_reducible assumption) | assumption)
                    obtain ⟨ad353, e353, hx353_0⟩ := Kd.at_int (Kd.R_reads' HO_6.out).2.2 x7_3 p353 q353
                    cases e353
                    replace p353 := eq_true p353
                    replace q353 := eq_true q353
                    have p32 : 0 ≤ ((rd t349 x7_3) : Int) := of_decide_eq_true (by first | (with_reducible assumption) | assumption)
                    have q32 : ((rd t349 x7_3) : Int) < ((x3_3.length : Int) : Int) := of_decide_eq_true (by first | (with_reducible assumption) | assumption)
                    obtain ⟨hx32_0, hf32_0⟩ := Kd.R_celln false HO_3.out ((rd t349 x7_3) : Int) p32 q32
                    replace p32 := eq_true p32
                    replace q32 := eq_true q32
                    have HP34 := Kd.R_putg HO_3.out ((rd t349 x7_3) : Int) true
                    go_wp2_with (first | ((with_reducible refine gate_store (t := 4) (p := 50) rfl ?_); refine store_event (t := 4) (p := 50) (v := ?vo_w35) (w1 := (wr.setCell ⟨go11, ((rd t349 x7_3) : Int).toNat, none⟩ (.bool true))) ?hg ?ho ?hn ?hr ?_; (case ho => rfl); (case hg => rfl); (case hn => rfl); (case hr => first | (go_simp; done) | (go_simp; rfl)); intro w35 hw; have hg : wr.grownBy w35 (some go11) := (by rw [hw]; exact HP34.2); have hp_ : Kd.R Kd.bool 4 w35 w.heap.size (fun _ => True) (.slice (some ⟨go11, 0, none⟩) x3_3.length co16) y354 := (by rw [hw, Ny354.out]; exact HP34.1); clear HP34; have n0_ := Aside0.mk (hp_); have n1_ := Aside0.mk (Kd.R_over' (v := (.slice (some ⟨go11, 0, none⟩) x3_3.length co16)) (by (with_reducible repeat (first | apply Kd.R_alloc | apply Kd.R_drewN | apply Kd.R_drew)); exact HO_6.out) (Kd.R_typed HO_3.out) (by decide) hg); have n2_ := Aside0.mk (blk_grown (g := gb344) (o := .cells #[.string a0_0, .slice A0_1 l0_1.length c0_1, .string a0_2, .slice A0_3 l0_3.length c0_3, .slice A0_4 l0_4.length c0_4, .slice A0_5 l0_5.length c0_5] 26 (0, 0)) (by (with_reducible repeat (first | refine blk_drewN ?_ _ | refine blk_drew ?_ | refine blk_alloc ?_ _)); exact BK344.out) hg (Kd.R_ne HO_3.out BK344.out (by decide))); have n3_ := Aside0.mk ((by rw [hw]; exact below_set (HB.out) GB11.out : Below w.heap.size w w35)); clear HO_3; clear HO_6; clear BK344; clear HB; have HO_3 := n0_; have HO_6 := n1_; have BK344 := n2_; have HB := n3_; clear n0_ n1_ n2_ n3_; clear hg hw hp_))
                    (try simp only [← hl3_3])
                    go_roundg k3
                    case measure => have := HK1.out; have := HK2.out; have := HK3.out; omega
                    case rel => exact ⟨(y354), (wrap64 (x7_3 + 1)), (by first | rfl | (simp; done) | (simp [*]; done)), H', ⟨by have := HK1.out; have := HK2.out; have := HK3.out; omega⟩, ⟨by (try simp only [hl3_1]); (try simp only [hl3_2]); (try simp only [hl3_3]); (with_reducible repeat (first | apply Kd.R_alloc | apply Kd.R_drewN | apply Kd.R_drew)); exact HO_3.out⟩, ⟨by (try simp only [hl3_1]); (try simp only [hl3_2]); (try simp only [hl3_3]); (with_reducible repeat (first | apply Kd.R_alloc | apply Kd.R_drewN | apply Kd.R_drew)); exact HO_6.out⟩, ⟨by (try simp only [hl3_1]); (try simp only [hl3_2]); (try simp only [hl3_3]); (with_reducible repeat (first | refine blk_drewN ?_ _ | refine blk_drew ?_ | refine blk_alloc ?_ _)); exact BK344.out⟩, ⟨by repeat (first | (with_reducible first | exact HB.out | apply below_alloc | apply pw_below_drewN | apply below_drew1 | refine below_set ?_ GE344.out) | exact HB.out)⟩⟩
                   ·rw [if_neg c31] at H
                    exact absurd H (by simp)
                  ·rw [if_neg c30] at H
                   exact absurd H (by simp)
                 ·rw [if_neg c29] at H
                  exact absurd H (by simp)
                ·rw [if_neg c28] at H
                 have c28b0 : decide (x7_3 < (t349.length : Int)) = false := decide_eq_false c28
                 clear c28
                 have H' := Aside0.mk H
                 clear H
                 have p352 : 0 ≤ (x5_2 : Int) := of_decide_eq_true (by first | (with_reducible assumption) | assumption)
                 have q352 : x5_2 < (x3_3.length : Int) := of_decide_eq_true (by first | (with_reducible assumption) | assumption)
                 obtain ⟨ad352, e352, hx352_0⟩ := Kd.at_bool (Kd.R_reads' HO_3.out).2.2 x5_2 p352 q352
                 (try rw [← Nbq26.out] at hx352_0)
                 obtain rfl : (⟨go11, 0, none⟩ : Addr) = ad352 := (by injection e352)
                 (first | simp only [add_plain] at hx352_0 | simp only [add_at] at hx352_0 | simp only [Addr.add, Nat.zero_add] at hx352_0 | skip)
                 replace p352 := eq_true p352
                 replace q352 := eq_true q352
                 obtain ⟨Ao36, co36, eo36⟩ := Kd.R_slice HO_6.out
                 subst eo36
                 go_wp2
                 (try simp only [← hl3_2, ← hl3_3])
                 go_roundg k3
                 case measure => have := HK1.out; have := HK2.out; have := HK3.out; omega
                 case rel => exact ⟨(x3_3), (wrap64 (x5_2 + 1)), (by first | rfl | (simp; done) | (simp [*]; done)), H', ⟨by have := HK1.out; have := HK2.out; have := HK3.out; omega⟩, ⟨by (try simp only [hl3_1]); (try simp only [hl3_2]); (try simp only [hl3_3]); (with_reducible repeat (first | apply Kd.R_alloc | apply Kd.R_drewN | apply Kd.R_drew)); exact HO_3.out⟩, ⟨by (try simp only [hl3_1]); (try simp only [hl3_2]); (try simp only [hl3_3]); (with_reducible repeat (first | refine blk_drewN ?_ _ | refine blk_drew ?_ | refine blk_alloc ?_ _)); exact BK344.out⟩, ⟨by repeat (first | (with_reducible first | exact HB.out | apply below_alloc | apply pw_below_drewN | apply below_drew1 | refine below_set ?_ GE344.out) | exact HB.out)⟩⟩
               ·replace c27 := Bool.eq_false_iff.mpr c27
                subst c27
                have H1 : (truantref09_Reached.l1 k3 x3_3 x4_1 (wrap64 (x5_2 + 1)) a0_0 l0_1 a0_2 l0_3 l0_4 l0_5) = some r := by rw [if_neg (show ¬ (false = true) by decide)] at H; exact H
                clear H
                have H := H1
                clear H1
                have H' := Aside0.mk H
                clear H
                have p352 : 0 ≤ (x5_2 : Int) := of_decide_eq_true (by first | (with_reducible assumption) | assumption)
                have q352 : x5_2 < (x3_3.length : Int) := of_decide_eq_true (by first | (with_reducible assumption) | assumption)
                obtain ⟨ad352, e352, hx352_0⟩ := Kd.at_bool (Kd.R_reads' HO_3.out).2.2 x5_2 p352 q352
                (try rw [← Nbq26.out] at hx352_0)
                obtain rfl : (⟨go11, 0, none⟩ : Addr) = ad352 := (by injection e352)
                (first | simp only [add_plain] at hx352_0 | simp only [add_at] at hx352_0 | simp only [Addr.add, Nat.zero_add] at hx352_0 | skip)
                replace p352 := eq_true p352
                replace q352 := eq_true q352
                go_wp2
                (try simp only [← hl3_2, ← hl3_3])
                go_roundg k3
                case measure => have := HK1.out; have := HK2.out; have := HK3.out; omega
                case rel => exact ⟨(x3_3), (wrap64 (x5_2 + 1)), (by first | rfl | (simp; done) | (simp [*]; done)), H', ⟨by have := HK1.out; have := HK2.out; have := HK3.out; omega⟩, ⟨by (try simp only [hl3_1]); (try simp only [hl3_2]); (try simp only [hl3_3]); (with_reducible repeat (first | apply Kd.R_alloc | apply Kd.R_drewN | apply Kd.R_drew)); exact HO_3.out⟩, ⟨by (try simp only [hl3_1]); (try simp only [hl3_2]); (try simp only [hl3_3]); (with_reducible repeat (first | refine blk_drewN ?_ _ | refine blk_drew ?_ | refine blk_alloc ?_ _)); exact BK344.out⟩, ⟨by repeat (first | (with_reducible first | exact HB.out | apply below_alloc | apply pw_below_drewN | apply below_drew1 | refine below_set ?_ GE344.out) | exact HB.out)⟩⟩
              ·rw [if_neg c25] at H
               exact absurd H (by simp)
             ·rw [if_neg c24] at H
              exact absurd H (by simp)
          ·rw [if_neg c20] at H
           have c20b0 : decide (x5_2 < (x3_2.length : Int)) = false := decide_eq_false c20
           clear c20
           have H' := Aside0.mk H
           clear H
           go_wp2
           (try simp only [← hl3_1, ← hl3_2])
           go_roundg k2
           case measure => have := HK1.out; have := HK2.out; omega
           case rel => exact ⟨(x3_2), (wrap64 (x4_1 + 1)), (by first | rfl | (simp; done) | (simp [*]; done)), H', ⟨by have := HK1.out; have := HK2.out; omega⟩, ⟨by (try simp only [hl3_1]); (try simp only [hl3_2]); (with_reducible repeat (first | apply Kd.R_alloc | apply Kd.R_drewN | apply Kd.R_drew)); exact HO_3.out⟩, ⟨by (try simp only [hl3_1]); (try simp only [hl3_2]); (with_reducible repeat (first | refine blk_drewN ?_ _ | refine blk_drew ?_ | refine blk_alloc ?_ _)); exact BK344.out⟩, ⟨by repeat (first | (with_reducible first | exact HB.out | apply below_alloc | apply pw_below_drewN | apply below_drew1 | refine below_set ?_ GE344.out) | exact HB.out)⟩⟩
       ·rw [if_neg c19] at H
        have c19b0 : decide (x4_1 < (x3_1.length : Int)) = false := decide_eq_false c19
        clear c19
        obtain rfl := Option.some.inj H
        go_wp2
        go_ret
        exact ⟨_, by first | rfl | (simp [errW_none, errW_some] <;> rfl) | (simp [*, errW_none, errW_some] <;> rfl), by (with_reducible repeat (first | apply Kd.R_alloc | apply Kd.R_drewN | apply Kd.R_drew)); exact HO_3.out, by repeat (first | (with_reducible first | exact HB.out | apply below_alloc | apply pw_below_drewN | apply below_drew1 | refine below_set ?_ GE344.out) | exact HB.out)⟩
    ·rw [if_neg c10] at H
     exact absurd H (by simp)
  ·rw [if_neg c3] at H
   exact absurd H (by simp)
 ·rw [if_neg c2] at H
  exact absurd H (by simp)

end Go.Proofs.Ytclhjalgflebfaa.Q

/- Flow, plain law: what is reached, round by round as by the walk. -/

namespace Go.Proofs.Ytclhjalgflebfaa.Q
open Go.RowKit Go.Proofs.YtclhjalgflebfaaW.PrintWords Go.Proofs.YtclhjalgflebfaaW.PrintLast Go.Proofs.YtclhjalgflebfaaW.PrintMore
set_option linter.unusedVariables false
set_option linter.unusedSimpArgs false
theorem hasR_none (n : Nat) (x : Int) : ¬ hasR (List.replicate n false) x := by
 rintro ⟨h0, h1, h2⟩
 unfold rdOf at h2
 rw [getD_at _ _ (by rw [List.length_replicate] at h1 ⊢; omega)] at h2
 simp at h2
theorem unseen_none (n : Nat) : unseen (List.replicate n false) = n := by simp [unseen]
theorem walk_facts (l : List S40) (hl : l.length < LIMF) (hn : 0 < l.length) : ∃ s e, walkO l = some (s, e ++ [0]) ∧ Adds l (List.replicate l.length false) s [0] (e ++ [0]) ∧ ((nextOf l 0).foldlM (stepO l l.length) ((List.replicate l.length false).set 0 true, [])) = some (s, e) ∧ Adds l ((List.replicate l.length false).set 0 true) s (nextOf l 0) e := by
 obtain ⟨s', e, h1, h2, e', he, h3, h4⟩ := visit_adds l (l.length + 1) 0 (List.replicate l.length false) [] (by simp) (by omega) (by omega) (hasR_none _ _) (by rw [unseen_none]; omega) (by rw [unseen_none]; simpa using hl)
 subst he
 refine ⟨s', e', ?_, h2, ?_, ?_⟩
 ·unfold walkO
  rw [if_pos hl, if_neg (by omega)]
  simpa using h1
 ·simpa using h3
 ·simpa using h4
section
variable (a0 : ByteArray) (l1 : List ByteArray) (a2 : ByteArray) (l3 : List ByteArray) (l4 : List S58) (l : List S40) (hl : l.length ≤ 1099511627776)
include hl
end
end Go.Proofs.Ytclhjalgflebfaa.Q

/- The tree that grow makes: places by the order, and the nearest ones. -/

namespace Go.Proofs.Ytclhjalgflebfaa.Q
open Go.RowKit Go.Proofs.YtclhjalgflebfaaW.PrintWords Go.Proofs.YtclhjalgflebfaaW.PrintLast Go.Proofs.YtclhjalgflebfaaW.PrintMore
set_option linter.unusedVariables false
set_option linter.unusedSimpArgs false
theorem places_spec {n : Nat} : ∀ (xs : List Int) (k : Nat) (a : List Int), a.length = n → xs.Nodup → (∀ x ∈ xs, 0 ≤ x ∧ x < (n : Int)) →
  ∃ a', (xs.zipIdx k).foldlM (fun (a : List Int) (x : Int × Nat) => if 0 ≤ x.1 ∧ x.1 < (a.length : Int) then some (a.set x.1.toNat (x.2 : Int)) else none) a = some a' ∧ a'.length = n ∧
   (∀ (i : Nat) (hi : i < xs.length), fnI n a' xs[i] = ((k + i : Nat) : Int)) ∧ (∀ x, x ∉ xs → fnI n a' x = fnI n a x)
 | [], k, a, ha, _, _ => ⟨a, rfl, ha, fun i hi => absurd hi (Nat.not_lt_zero _), fun _ _ => rfl⟩
 | x :: xs, k, a, ha, hnd, hr => by
  obtain ⟨h0, h1⟩ := hr x List.mem_cons_self
  obtain ⟨hx, hnd'⟩ := List.nodup_cons.mp hnd
  have hl : (a.set x.toNat (k : Int)).length = n := by rw [List.length_set]; exact ha
  obtain ⟨a', p1, p2, p3, p4⟩ := places_spec xs (k + 1) (a.set x.toNat (k : Int)) hl hnd' (fun y hy => hr y (List.mem_cons_of_mem _ hy))
  refine ⟨a', ?_, p2, fun i hi => ?_, fun y hy => ?_⟩
  ·rw [List.zipIdx_cons, List.foldlM_cons]
   simp only
   rw [if_pos ⟨h0, by rw [ha]; exact h1⟩]
   exact p1
  ·cases i with
   | zero =>
    rw [List.getElem_cons_zero, p4 x hx, fn_set ha h0 h1, put_same]
    rfl
   | succ i =>
    rw [List.getElem_cons_succ, p3 i (by simpa using hi)]
    omega
  ·rw [p4 y (fun q => hy (List.mem_cons_of_mem _ q)), fn_set ha h0 h1, put_other _ (fun e => hy (by rw [e]; exact List.mem_cons_self))]
theorem fn_none (n : Nat) (x : Int) : fnI n (List.replicate n (-1)) x = -1 := by
 unfold fnI
 split
 ·unfold rd
  rw [getD_at _ _ (by rw [List.length_replicate]; omega), List.getElem_replicate]
 ·rfl
theorem aheadTo_mem {l : List S40} {b i : Int} : ∀ n, i ∈ aheadTo l n b ↔ 0 ≤ i ∧ i < (n : Int) ∧ b ∈ nextOf l i := by
 intro n
 induction n with
 | zero => simp [aheadTo]; omega
 | succ n ih =>
  unfold aheadTo
  rw [List.mem_append, ih]
  constructor
  ·rintro (⟨h0, h1, h2⟩ | h)
   ·exact ⟨h0, by omega, h2⟩
   ·obtain ⟨y, hy, rfl⟩ := List.mem_map.mp h
    obtain ⟨hy1, hy2⟩ := List.mem_filter.mp hy
    have : y = b := by simpa using hy2
    subst this
    exact ⟨by omega, by omega, hy1⟩
  ·rintro ⟨h0, h1, h2⟩
   by_cases e : i = (n : Int)
   ·subst e
    exact .inr (List.mem_map.mpr ⟨b, List.mem_filter.mpr ⟨h2, by simp⟩, rfl⟩)
   ·exact .inl ⟨h0, by omega, h2⟩
theorem rows_mem {l : List S40} {b p : Int} (h0 : 0 ≤ b) (h1 : b < (l.length : Int)) : p ∈ rowOf (aheadRows l) b ↔ 0 ≤ p ∧ p < (l.length : Int) ∧ b ∈ nextOf l p := by
 unfold rowOf aheadRows
 rw [getD_at _ _ (by simp; omega)]
 simp only [List.getElem_map, List.getElem_range]
 rw [aheadTo_mem, show ((b.toNat : Nat) : Int) = b by omega]
theorem rows_none {l : List S40} {b : Int} (h : ¬ b < (l.length : Int)) (h0 : 0 ≤ b) : rowOf (aheadRows l) b = [] := by
 unfold rowOf
 rw [List.getD_eq_getElem?_getD, List.getElem?_eq_none (by simp [aheadRows]; omega)]
 rfl
theorem reach_bound {prev : Int → List Int} {at_ : Int → Int} (g : Gr prev at_) (n : Nat) (hlt : ∀ x, at_ x ≠ -1 → 0 ≤ x ∧ x < (n : Int)) (y : Int) : ∀ x, Av prev at_ y x → ∃ q, AvR prev at_ y q x ∧ q ≤ n + 1 := by
 have filt : ∀ {α : Type} (p q : α → Bool) (l : List α), (∀ x ∈ l, p x = true → q x = true) → (l.filter p).length ≤ (l.filter q).length ∧ ((∃ x ∈ l, q x = true ∧ p x = false) → (l.filter p).length + 1 ≤ (l.filter q).length) := by
  intro α p q l
  induction l with
  | nil => intro _; exact ⟨Nat.le_refl _, fun ⟨x, hx, _⟩ => by cases hx⟩
  | cons a l ih =>
   intro h
   obtain ⟨i1, i2⟩ := ih (fun x hx => h x (List.mem_cons_of_mem _ hx))
   have ha := h a List.mem_cons_self
   rw [List.filter_cons, List.filter_cons]
   cases hp : p a with
   | true =>
    rw [ha hp]
    simp only [if_true, List.length_cons]
    refine ⟨by omega, ?_⟩
    rintro ⟨x, hx, h1, h2⟩
    rcases List.mem_cons.mp hx with rfl | hx
    ·rw [hp] at h2; cases h2
    ·have := i2 ⟨x, hx, h1, h2⟩; omega
   | false =>
    cases hq : q a with
    | true =>
     simp only [if_true, Bool.false_eq_true, if_false, List.length_cons]
     exact ⟨by omega, fun _ => by omega⟩
    | false =>
     simp only [Bool.false_eq_true, if_false]
     refine ⟨i1, ?_⟩
     rintro ⟨x, hx, h1, h2⟩
     rcases List.mem_cons.mp hx with rfl | hx
     ·rw [hq] at h1; cases h1
     ·exact i2 ⟨x, hx, h1, h2⟩
 let P : Nat → Int → Prop := fun q x => ∃ q', q' ≤ q ∧ AvR prev at_ y q' x
 let cnt : Nat → Nat := fun q => ((List.range n).filter (fun x : Nat => decB (P q (x : Int)))).length
 have cnt_le : ∀ q, cnt q ≤ n := fun q => by
  have := List.length_filter_le (fun x : Nat => decB (P q (x : Int))) (List.range n)
  rwa [List.length_range] at this
 have tr : ∀ {p : Prop}, decB p = true → p := fun {p} h => by
  by_cases hp : p
  ·exact hp
  ·rw [decB_false hp] at h; cases h
 have fl : ∀ {p : Prop}, decB p = false → ¬ p := fun {p} h hp => by rw [decB_true hp] at h; cases h
 have key : ∀ q, (∀ q' x, AvR prev at_ y q' x → P q x) ∨ q ≤ cnt q := by
  intro q
  induction q with
  | zero => exact .inr (Nat.zero_le _)
  | succ q ih =>
   rcases ih with h | h
   ·exact .inl (fun q' x k => by obtain ⟨a, b, c⟩ := h q' x k; exact ⟨a, by omega, c⟩)
   ·by_cases hs : ∀ x, P (q + 1) x → P q x
    ·left
     intro q' x k
     have : P q x := by
      induction k with
      | zero h => exact ⟨0, Nat.zero_le _, .zero h⟩
      | fwd _ hp hb ha ih => obtain ⟨a, b, c⟩ := ih; exact ⟨a, b, .fwd c hp hb ha⟩
      | ret _ hp hb ha ih => obtain ⟨a, b, c⟩ := ih; exact hs _ ⟨a + 1, by omega, .ret c hp hb ha⟩
     obtain ⟨a, b, c⟩ := this
     exact ⟨a, by omega, c⟩
    ·right
     have hex : ∃ x, P (q + 1) x ∧ ¬ P q x := Classical.byContradiction (fun hn => hs (fun x hx => Classical.byContradiction (fun hp => hn ⟨x, hx, hp⟩)))
     obtain ⟨x, h1, h2⟩ := hex
     obtain ⟨a, b, c⟩ := h1
     obtain ⟨x0, x1⟩ := hlt x (c.reached g)
     have := (filt (fun x : Nat => decB (P q (x : Int))) (fun x : Nat => decB (P (q + 1) (x : Int))) (List.range n) (fun z _ hz => decB_true (by obtain ⟨a, b, c⟩ := tr hz; exact ⟨a, by omega, c⟩))).2
      ⟨x.toNat, List.mem_range.mpr (by omega), by rw [show ((x.toNat : Nat) : Int) = x by omega]; exact decB_true ⟨a, b, c⟩, by rw [show ((x.toNat : Nat) : Int) = x by omega]; exact decB_false h2⟩
     show q + 1 ≤ cnt (q + 1)
     have h3 : cnt q + 1 ≤ cnt (q + 1) := this
     omega
 rintro x ⟨q, hq⟩
 rcases key (n + 1) with h | h
 ·obtain ⟨a, b, c⟩ := h q x hq
  exact ⟨a, c, b⟩
 ·have := cnt_le (n + 1)
  omega
section
variable (a0 : ByteArray) (l1 : List ByteArray) (a2 : ByteArray) (l3 : List ByteArray) (l4 : List S58) (l : List S40)
theorem ord_of (hn : 1 ≤ l.length) {s : List Bool} {e : List Int} (A : Adds l (List.replicate l.length false) s [0] (e ++ [0])) :
  ∃ at_, placesO (0 :: e.reverse) (List.replicate l.length (-1)) = some at_ ∧ Ord l.length (0 :: e.reverse) at_ (aheadRows l) ∧ (∀ x, fnI l.length at_ x ≠ -1 ↔ hasR s x) := by
 obtain ⟨o, ho⟩ : ∃ o, o = 0 :: e.reverse := ⟨_, rfl⟩
 have hrev : o = (e ++ [0]).reverse := by rw [ho]; simp
 have hmem : ∀ x, x ∈ o ↔ x ∈ e ++ [0] := fun x => by rw [hrev, List.mem_reverse]
 have hs : ∀ x, hasR s x ↔ x ∈ o := fun x => by
  rw [A.mem x, hmem x]
  exact ⟨fun h => h.resolve_left (hasR_none _ _), .inr⟩
 have hsl : s.length = l.length := by have := A.len; rwa [List.length_replicate] at this
 have hrange : ∀ x ∈ o, 0 ≤ x ∧ x < (l.length : Int) := fun x hx => by
  obtain ⟨h0, h1, _⟩ := (hs x).mpr hx
  exact ⟨h0, by rw [hsl] at h1; exact h1⟩
 have hnd : o.Nodup := by rw [hrev]; exact List.pairwise_reverse.mpr (A.nodup.imp (fun h e => h e.symm))
 obtain ⟨at_, p1, p2, p3, p4⟩ := places_spec o 0 (List.replicate l.length (-1)) List.length_replicate hnd hrange
 have hin : ∀ x, fnI l.length at_ x ≠ -1 ↔ x ∈ o := fun x => by
  constructor
  ·intro h
   exact Classical.byContradiction (fun hx => h (by rw [p4 x hx]; exact fn_none _ _))
  ·intro h
   obtain ⟨i, hi, rfl⟩ := List.mem_iff_getElem.mp h
   rw [p3 i hi]; omega
 have hat : ∀ (i : Nat) (hi : i < o.length), fnI l.length at_ o[i] = i := fun i hi => by rw [p3 i hi]; omega
 have hprev : ∀ b p, p ∈ prevI l.length (aheadRows l) b ↔ 0 ≤ p ∧ p < (l.length : Int) ∧ b ∈ nextOf l p := fun b p => by
  unfold prevI
  by_cases hb : 0 ≤ b ∧ b < (l.length : Int)
  ·rw [if_pos hb, rows_mem hb.1 hb.2]
  ·rw [if_neg hb]
   exact ⟨(fun h => by cases h), fun h => absurd (next_in h.2.2) hb⟩
 have hlen : o.length ≤ l.length := by
  have h1 := A.count
  rw [unseen_none] at h1
  rw [hrev, List.length_reverse]
  omega
 have hlt : ∀ x, fnI l.length at_ x ≠ -1 → fnI l.length at_ x < o.length := fun x hx => by
  obtain ⟨i, hi, rfl⟩ := List.mem_iff_getElem.mp ((hin x).mp hx)
  rw [hat i hi]; omega
 rw [← ho]
 refine ⟨at_, p1, ⟨p2, by simp [aheadRows], ⟨?_, ?_, ?_, ?_, ?_, ?_⟩, hat, hlt, fun x hx => by have := hlt x hx; omega, fun b p hp => ⟨((hprev b p).mp hp).1, ((hprev b p).mp hp).2.1⟩, by rw [ho]; simp⟩, fun x => (hin x).trans (hs x).symm⟩
 ·unfold fnI
  rw [if_neg (by omega)]
 ·have h0 : 0 < o.length := by rw [ho]; simp
  have := hat 0 h0
  simp only [ho, List.getElem_cons_zero] at this
  simpa using this
 ·intro x y hx hxy
  obtain ⟨i, hi, rfl⟩ := List.mem_iff_getElem.mp ((hin x).mp hx)
  obtain ⟨j, hj, rfl⟩ := List.mem_iff_getElem.mp ((hin y).mp (by rw [← hxy]; exact hx))
  rw [hat i hi, hat j hj] at hxy
  have : i = j := by omega
  subst this
  rfl
 ·intro x hx
  obtain ⟨i, hi, rfl⟩ := List.mem_iff_getElem.mp ((hin x).mp hx)
  rw [hat i hi]; omega
 ·intro b hb hb0
  obtain ⟨e1, e2, he⟩ := List.append_of_mem ((hmem b).mp ((hin b).mp hb))
  rcases A.led e1 b e2 he with h | ⟨p, hp, hpb⟩
  ·exact absurd (List.mem_singleton.mp h) hb0
  ·have hoe : o = e2.reverse ++ b :: e1.reverse := by rw [hrev, he]; simp
   have hpo : p ∈ o := by rw [hoe]; exact List.mem_append_left _ (List.mem_reverse.mpr hp)
   obtain ⟨j, hj, hjp⟩ := List.mem_iff_getElem.mp (List.mem_reverse.mpr hp)
   have hjl : j < e2.length := by rwa [List.length_reverse] at hj
   have hjo : j < o.length := by rw [hoe, List.length_append, List.length_reverse]; omega
   have hbo : e2.length < o.length := by rw [hoe, List.length_append, List.length_reverse, List.length_cons]; omega
   have ep : o[j] = p := by simp only [hoe]; rw [List.getElem_append_left hj]; exact hjp
   have eb : o[e2.length] = b := by simp only [hoe]; rw [List.getElem_append_right (by simp)]; simp
   have ap := hat j hjo
   have ab := hat e2.length hbo
   rw [ep] at ap
   rw [eb] at ab
   have hpr := hrange p hpo
   exact ⟨p, (hprev b p).mpr ⟨hpr.1, hpr.2, hpb⟩, (hin p).mpr hpo, by rw [ap, ab]; omega⟩
 ·intro b p hp hpr
  have h1 := (hmem p).mp ((hin p).mp hpr)
  exact (hin b).mpr ((hs b).mp (A.goes p h1 b ((hprev b p).mp hp).2.2))
theorem inv_start {n : Nat} {o at_ : List Int} {h : List (List Int)} (od : Ord n o at_ h) (hn : 1 ≤ n) : Inv h n at_ 0 0 ((List.replicate n (-1)).set 0 0) := by
 have hf : fnI n ((List.replicate n (-1)).set 0 0) = putI (fnI n (List.replicate n (-1))) 0 0 := by
  have := fn_set (n := n) (nr := List.replicate n (-1)) List.length_replicate (c := 0) (m := 0) (Int.le_refl _) (by omega)
  exact this
 have hz : ∀ x, putI (fnI n (List.replicate n (-1))) 0 0 x ≠ -1 → x = 0 := fun x hx => by
  by_cases e : x = 0
  ·exact e
  ·rw [put_other _ e, fn_none] at hx; exact absurd rfl hx
 refine ⟨by rw [List.length_set, List.length_replicate], ?_, ?_, ?_, ?_⟩ <;> rw [hf]
 ·refine ⟨put_same _ _ _, fun x hx => ?_, fun x hx0 hx => absurd (hz x hx) hx0⟩
  rw [hz x hx, od.gr.zero]; decide
 ·intro x hx0 hx
  exact absurd (hz x hx) hx0
 ·rintro y x hx ⟨q, hq, _⟩ hon
  have e := hz x hx
  subst e
  exact (hon.next (Ne.symm hq.ne)).1 rfl
 ·intro x hx hc
  have h0 := od.gr.pos x hx
  have e : x = 0 := od.gr.inj x 0 hx (by rw [od.gr.zero]; omega)
  rw [e, put_same]
  decide
theorem enough_of {n : Nat} {o at_ : List Int} {h : List (List Int)} (od : Ord n o at_ h) : ∀ r, n + 2 ≤ r → Enough h n at_ r := fun r hr y x k => by
 obtain ⟨q, a, b⟩ := reach_bound od.gr n (fun x hx => fnI_in hx) y x k
 exact ⟨q, a, by omega⟩
/-- What grow makes of a function with blocks. -/
theorem grow_is (hn : 1 ≤ l.length) (hl : l.length ≤ 1000000) : ∃ o at_ nr s, growO a0 l1 a2 l3 l4 l = some (o, at_, aheadRows l, nr.set 0 (-1)) ∧ Ord l.length o at_ (aheadRows l) ∧ Good (aheadRows l) l.length at_ nr ∧
  flow_Reached.f a0 l1 a2 l3 l4 l = some s ∧ s.length = l.length ∧ (∀ x, fnI l.length at_ x ≠ -1 ↔ hasR s x) := by
 obtain ⟨s, e, h1, A, _⟩ := walk_facts l (by unfold LIMF; omega) (by omega)
 obtain ⟨at_, p1, od, hR⟩ := ord_of l hn A
 have hsl : s.length = l.length := by have := A.len; rwa [List.length_replicate] at this
 obtain ⟨nr, q1, q2⟩ := rounds_end od (fuelD l.length) (by unfold fuelD; omega) (enough_of od) (fuelD l.length) 0 _ (inv_start od hn) (by unfold fuelD; omega) (by unfold fuelD; omega)
 have hlen : (e ++ [0]).length < LIMF := by
  have h2 := A.count
  rw [unseen_none] at h2
  unfold LIMF; omega
 refine ⟨_, at_, nr, s, ?_, od, q2, ?_, hsl, hR⟩
 ·unfold growO flow_Order.f
  rw [h1, Option.bind_some, if_pos hlen, Option.bind_some]
  have e2 : (e ++ [0]).reverse = 0 :: e.reverse := by simp
  simp only [e2]
  rw [if_pos ⟨hn, hl, by simp⟩, p1, Option.bind_some, q1, Option.bind_some]
 ·unfold flow_Reached.f
  rw [h1]
  rfl
end
end Go.Proofs.Ytclhjalgflebfaa.Q

/- Is, and the way up by which Front goes. -/

namespace Go.Proofs.Ytclhjalgflebfaa.Q
open Go.RowKit Go.Proofs.YtclhjalgflebfaaW.PrintWords Go.Proofs.YtclhjalgflebfaaW.PrintLast Go.Proofs.YtclhjalgflebfaaW.PrintMore
set_option linter.unusedVariables false
set_option linter.unusedSimpArgs false
section
variable {n : Nat} {o at_ nr : List Int} {h : List (List Int)}
theorem rd_root (hn : nr.length = n) {x : Int} (h0 : 0 ≤ x) (h1 : x < (n : Int)) : rd (nr.set 0 (-1)) x = if x = 0 then -1 else fnI n nr x := by
 have := congrFun (fn_set (n := n) hn (c := 0) (m := -1) (Int.le_refl _) (by omega)) x
 rw [← fnI_rd (n := n) h0 h1]
 rw [show nr.set 0 (-1) = nr.set (0 : Int).toNat (-1) from rfl, this]
 rfl
theorem on_spec (od : Ord n o at_ h) (gd : Good h n at_ nr) {a : Int} (ha : fnI n at_ a ≠ -1) : ∀ (k : Nat) (b : Int), fnI n at_ b ≠ -1 → fnI n at_ b + 2 ≤ k → onO (nr.set 0 (-1)) k a b = some (decB (On (fnI n nr) a b)) := by
 have ha1 : a ≠ -1 := fun e => by have := (fnI_in ha).1; omega
 intro k
 induction k with
 | zero => intro b hb hk; have := od.gr.pos b hb; omega
 | succ k ih =>
  intro b hb hk
  obtain ⟨h0, h1⟩ := fnI_in hb
  have hp := od.gr.pos b hb
  rw [onO, if_neg (by omega)]
  by_cases e : b = a
  ·subst e
   rw [if_pos rfl, decB_true .self]
  ·rw [if_neg e, if_pos ⟨h0, by rw [List.length_set, gd.len]; exact h1⟩, rd_root gd.len h0 h1]
   by_cases hz : b = 0
   ·rw [if_pos hz]
    obtain ⟨k, rfl⟩ : ∃ m, k = m + 1 := ⟨k - 1, by omega⟩
    rw [onO, if_pos rfl, decB_false (fun q => (q.next (Ne.symm e)).1 hz)]
    congr 1
    exact beq_eq_false_iff_ne.mpr (Ne.symm ha1)
   ·rw [if_neg hz]
    have hk2 := gd.known b hb
    have hu := gd.tr.up b hz hk2
    rw [ih (fnI n nr b) (gd.tr.known _ hu.2) (by omega)]
    congr 1
    exact decB_iff ⟨fun q => .up hz q, fun q => (q.next (Ne.symm e)).2⟩
/-- Whether a dominates b. -/
theorem is_spec (od : Ord n o at_ h) (gd : Good h n at_ nr) (K : Nat) (hK : n + 2 ≤ K) {a b : Int} (a0 : 0 ≤ a) (a1 : a < (n : Int)) (b0 : 0 ≤ b) (b1 : b < (n : Int)) :
  isO at_ (nr.set 0 (-1)) K a b = some (decB (fnI n at_ a ≠ -1 ∧ Domi (prevI n h) (fnI n at_) a b)) := by
 have e1 : rd at_ a = fnI n at_ a := (fnI_rd a0 a1).symm
 have e2 : rd at_ b = fnI n at_ b := (fnI_rd b0 b1).symm
 unfold isO
 rw [if_pos ⟨a0, by rw [od.len]; exact a1⟩, e1]
 by_cases ha : fnI n at_ a = -1
 ·rw [if_pos ha, decB_false (fun q => q.1 ha)]
 ·rw [if_neg ha, if_pos ⟨b0, by rw [od.len]; exact b1⟩, e2]
  by_cases hb : fnI n at_ b = -1
  ·rw [if_pos hb, decB_false (fun q => q.2.1 hb)]
  ·rw [if_neg hb, on_spec od gd ha K b hb (by have := od.lt b hb; omega)]
   congr 1
   exact decB_iff ((gd.on a b ha hb).trans ⟨fun q => ⟨ha, q⟩, fun q => q.2⟩)
/-- Why x stands in a's front. -/
def Fr (n : Nat) (h : List (List Int)) (at_ : List Int) (a x : Int) : Prop := fnI n at_ a ≠ -1 ∧ ∃ p ∈ prevI n h x, fnI n at_ p ≠ -1 ∧ Domi (prevI n h) (fnI n at_) a p ∧ (a = x ∨ ¬ Domi (prevI n h) (fnI n at_) a x)
structure Snd (n : Nat) (h : List (List Int)) (at_ : List Int) (c : Nat) (out : List (List Int)) : Prop where
 len : out.length = n
 few : ∀ a, (rowOf out a).length ≤ c
 why : ∀ a, 0 ≤ a → a < (n : Int) → ∀ x ∈ rowOf out a, (0 ≤ x ∧ x < (n : Int)) ∧ Fr n h at_ a x
theorem row_set {out : List (List Int)} {x a : Int} {y : List Int} (h0 : 0 ≤ x) (h1 : x < (out.length : Int)) (a0 : 0 ≤ a) : rowOf (out.set x.toNat y) a = if a = x then y else rowOf out a := by
 unfold rowOf
 by_cases e : a = x
 ·subst e
  rw [if_pos rfl, getD_at _ _ (by rw [List.length_set]; omega), List.getElem_set_self]
 ·rw [if_neg e, List.getD_eq_getElem?_getD, List.getD_eq_getElem?_getD, List.getElem?_set_ne (by omega)]
theorem climb_spec (od : Ord n o at_ h) (gd : Good h n at_ nr) (K : Nat) (hK : n + 2 ≤ K) {b p : Int} (b0 : 0 ≤ b) (b1 : b < (n : Int)) (hp : p ∈ prevI n h b) (c : Nat) (hc : c + 1 < LIMF) :
  ∀ (k : Nat) (x : Int) (out : List (List Int)), (x = -1 ∨ (fnI n at_ x ≠ -1 ∧ On (fnI n nr) x p)) → fnI n at_ x + 3 ≤ k → Snd n h at_ (c + 1) out → (∀ a, 0 ≤ a → fnI n at_ a ≤ fnI n at_ x → (rowOf out a).length ≤ c) →
   ∃ out', climbO at_ (nr.set 0 (-1)) K b p k x out = some out' ∧ Snd n h at_ (c + 1) out' := by
 obtain ⟨p0, p1⟩ := od.rows b p hp
 have e1 : rd at_ p = fnI n at_ p := (fnI_rd p0 p1).symm
 intro k
 induction k with
 | zero =>
  intro x out hx hk _ _
  rcases hx with rfl | ⟨hx, _⟩
  ·have : fnI n at_ (-1) = -1 := od.gr.none
   omega
  ·have := od.gr.pos x hx; omega
 | succ k ih =>
  intro x out hx hk hs hlow
  have hstop : climbS at_ (nr.set 0 (-1)) K b p x = some false → ∃ out', climbO at_ (nr.set 0 (-1)) K b p (k + 1) x out = some out' ∧ Snd n h at_ (c + 1) out' := fun e => by
   refine ⟨out, ?_, hs⟩
   rw [climbO, e]
   rfl
  by_cases hpr : fnI n at_ p = -1
  ·refine hstop ?_
   unfold climbS
   rw [if_pos ⟨p0, by rw [od.len]; exact p1⟩, e1, if_pos hpr]
  ·rcases hx with rfl | ⟨hxr, hon⟩
   ·refine hstop ?_
    unfold climbS
    rw [if_pos ⟨p0, by rw [od.len]; exact p1⟩, e1, if_neg hpr, if_pos rfl]
   ·obtain ⟨x0, x1⟩ := fnI_in hxr
    have hxp := od.gr.pos x hxr
    have hdp : Domi (prevI n h) (fnI n at_) x p := (gd.on x p hxr hpr).mp hon
    have hgo : (x = b ∨ ¬ Domi (prevI n h) (fnI n at_) x b) → climbS at_ (nr.set 0 (-1)) K b p x = some true → ∃ out', climbO at_ (nr.set 0 (-1)) K b p (k + 1) x out = some out' ∧ Snd n h at_ (c + 1) out' := fun hwhy e => by
     have hrl := hlow x x0 (Int.le_refl _)
     have hs2 : Snd n h at_ (c + 1) (out.set x.toNat (rowOf out x ++ [b])) := by
      refine ⟨by rw [List.length_set]; exact hs.len, fun a => ?_, fun a a0 a1 z hz => ?_⟩
      ·by_cases a0 : 0 ≤ a
       ·rw [row_set x0 (by rw [hs.len]; exact x1) a0]
        split
        ·rw [List.length_append, List.length_singleton]; omega
        ·exact hs.few a
       ·have ea : rowOf (out.set x.toNat (rowOf out x ++ [b])) a = rowOf (out.set x.toNat (rowOf out x ++ [b])) 0 := by unfold rowOf; rw [show a.toNat = (0 : Int).toNat by omega]
        rw [ea, row_set x0 (by rw [hs.len]; exact x1) (Int.le_refl _)]
        split
        ·rw [List.length_append, List.length_singleton]; omega
        ·exact hs.few 0
      ·rw [row_set x0 (by rw [hs.len]; exact x1) a0] at hz
       split at hz
       ·rename_i e2
        subst e2
        rcases List.mem_append.mp hz with hz | hz
        ·exact hs.why a a0 a1 z hz
        ·obtain rfl := List.mem_singleton.mp hz
         exact ⟨⟨b0, b1⟩, hxr, p, hp, hpr, hdp, hwhy⟩
       ·exact hs.why a a0 a1 z hz
     have hnx : rd (nr.set 0 (-1)) x = if x = 0 then -1 else fnI n nr x := rd_root gd.len x0 x1
     have hnext : ∃ out', climbO at_ (nr.set 0 (-1)) K b p k (rd (nr.set 0 (-1)) x) (out.set x.toNat (rowOf out x ++ [b])) = some out' ∧ Snd n h at_ (c + 1) out' := by
      by_cases hz : x = 0
      ·rw [hnx, if_pos hz]
       have hm : fnI n at_ (-1) = -1 := od.gr.none
       refine ih (-1) _ (.inl rfl) (by omega) hs2 (fun a a0 hle => ?_)
       rw [row_set x0 (by rw [hs.len]; exact x1) a0]
       split
       ·rename_i e2
        subst e2
        omega
       ·exact hlow a a0 (by omega)
      ·rw [hnx, if_neg hz]
       have hu := gd.tr.up x hz (gd.known x hxr)
       have hur := gd.tr.known _ hu.2
       have hup := od.gr.pos _ hur
       refine ih (fnI n nr x) _ (.inr ⟨hur, ?_⟩) (by omega) hs2 (fun a a0 hle => ?_)
       ·exact (On.up hz .self : On (fnI n nr) (fnI n nr x) x).trans hon
       ·rw [row_set x0 (by rw [hs.len]; exact x1) a0]
        split
        ·rename_i e2
         subst e2
         omega
        ·exact hlow a a0 (by omega)
     obtain ⟨out', q1, q2⟩ := hnext
     refine ⟨out', ?_, q2⟩
     rw [climbO, e, Option.bind_some, if_pos rfl, if_pos ⟨x0, by rw [hs.len]; exact x1, by rw [List.length_set, gd.len]; exact x1, by omega⟩]
     exact q1
    have hcl : climbS at_ (nr.set 0 (-1)) K b p x = if x = b then some true else (isO at_ (nr.set 0 (-1)) K x b).map (fun r => !r) := by
     unfold climbS
     rw [if_pos ⟨p0, by rw [od.len]; exact p1⟩, e1, if_neg hpr, if_neg (by omega)]
    by_cases hxb : x = b
    ·exact hgo (.inl hxb) (by rw [hcl, if_pos hxb])
    ·rw [if_neg hxb, is_spec od gd K hK x0 x1 b0 b1] at hcl
     by_cases hd : fnI n at_ x ≠ -1 ∧ Domi (prevI n h) (fnI n at_) x b
     ·exact hstop (by rw [hcl, decB_true hd]; rfl)
     ·exact hgo (.inr (fun q => hd ⟨hxr, q⟩)) (by rw [hcl, decB_false hd]; rfl)
end
end Go.Proofs.Ytclhjalgflebfaa.Q

/- Front: each row holds those only of whom it is so. -/

namespace Go.Proofs.Ytclhjalgflebfaa.Q
open Go.RowKit Go.Proofs.YtclhjalgflebfaaW.PrintWords Go.Proofs.YtclhjalgflebfaaW.PrintLast Go.Proofs.YtclhjalgflebfaaW.PrintMore
set_option linter.unusedVariables false
set_option linter.unusedSimpArgs false
theorem compact_sub (xs : List Int) : ∀ x ∈ Lib.compact xs, x ∈ xs := by
 intro x hx
 unfold Lib.compact Lib.compactUpTo at hx
 obtain ⟨i, hi, rfl⟩ := List.mem_map.mp hx
 have hlt := List.mem_range.mp (List.mem_filter.mp hi).1
 have e : xs.toArray[i]! = xs[i] := by simp [hlt]
 rw [e]
 exact List.getElem_mem hlt
theorem sortC_sub (xs : List Int) : ∀ x ∈ sortC xs, x ∈ xs := fun x hx => List.mem_mergeSort.mp (compact_sub _ x hx)
section
variable {n : Nat} {o at_ nr : List Int} {h : List (List Int)}
theorem Snd.more {c d : Nat} {out : List (List Int)} (s : Snd n h at_ c out) (hd : c ≤ d) : Snd n h at_ d out := ⟨s.len, fun a => Nat.le_trans (s.few a) hd, s.why⟩
theorem climb_one (od : Ord n o at_ h) (gd : Good h n at_ nr) (K : Nat) (hK : n + 2 ≤ K) {b p : Int} (b0 : 0 ≤ b) (b1 : b < (n : Int)) (hp : p ∈ prevI n h b) (c : Nat) (hc : c + 1 < LIMF) {out : List (List Int)} (hs : Snd n h at_ c out) :
  ∃ out', climbO at_ (nr.set 0 (-1)) K b p K p out = some out' ∧ Snd n h at_ (c + 1) out' := by
 obtain ⟨p0, p1⟩ := od.rows b p hp
 by_cases hpr : fnI n at_ p = -1
 ·obtain ⟨k, rfl⟩ : ∃ k, K = k + 1 := ⟨K - 1, by omega⟩
  refine ⟨out, ?_, hs.more (by omega)⟩
  rw [climbO]
  unfold climbS
  rw [if_pos ⟨p0, by rw [od.len]; exact p1⟩, ← fnI_rd p0 p1, if_pos hpr]
  rfl
 ·exact climb_spec od gd K hK b0 b1 hp c hc K p out (.inr ⟨hpr, .self⟩) (by have := od.lt p hpr; omega) (hs.more (by omega)) (fun a _ _ => hs.few a)
theorem climbs (od : Ord n o at_ h) (gd : Good h n at_ nr) (K : Nat) (hK : n + 2 ≤ K) {b : Int} (b0 : 0 ≤ b) (b1 : b < (n : Int)) : ∀ (ps : List Int) (c : Nat) (out : List (List Int)), (∀ p ∈ ps, p ∈ prevI n h b) → c + ps.length < LIMF → Snd n h at_ c out →
  ∃ out', ps.foldlM (fun out p => climbO at_ (nr.set 0 (-1)) K b p K p out) out = some out' ∧ Snd n h at_ (c + ps.length) out'
 | [], c, out, _, _, hs => ⟨out, rfl, hs⟩
 | p :: ps, c, out, hp, hc, hs => by
  rw [List.length_cons] at hc
  obtain ⟨out1, q1, q2⟩ := climb_one od gd K hK b0 b1 (hp p List.mem_cons_self) c (by omega) hs
  obtain ⟨out2, r1, r2⟩ := climbs od gd K hK b0 b1 ps (c + 1) out1 (fun x hx => hp x (List.mem_cons_of_mem _ hx)) (by omega) q2
  refine ⟨out2, ?_, ?_⟩
  ·rw [List.foldlM_cons, q1]
   exact r1
  ·rw [List.length_cons]
   exact r2.more (by omega)
theorem blocks (od : Ord n o at_ h) (gd : Good h n at_ nr) (K : Nat) (hK : n + 2 ≤ K) (hn : n ≤ 1000000) (hrow : ∀ b : Nat, (rowOf h b).length ≤ 2000000) : ∀ (d i : Nat) (out : List (List Int)), i + d = n → Snd n h at_ (i * 2000000) out →
  ∃ out', ((List.range n).drop i).foldlM (frontB at_ h (nr.set 0 (-1)) K) out = some out' ∧ Snd n h at_ (n * 2000000) out' := by
 intro d
 induction d with
 | zero =>
  intro i out hi hs
  rw [List.drop_eq_nil_of_le (by rw [List.length_range]; omega)]
  exact ⟨out, rfl, hs.more (by omega)⟩
 | succ d ih =>
  intro i out hi hs
  have hd : (List.range n).drop i = i :: (List.range n).drop (i + 1) := by rw [List.drop_eq_getElem_cons (by rw [List.length_range]; omega), List.getElem_range]
  have hr := hrow i
  obtain ⟨out1, q1, q2⟩ := climbs od gd K hK (b := (i : Int)) (by omega) (by omega) (rowOf h i) (i * 2000000) out (fun p hp => by rw [prevI_in (by omega) (by omega)]; exact hp) (by unfold LIMF; omega) hs
  obtain ⟨out2, r1, r2⟩ := ih (i + 1) out1 (by omega) (q2.more (by omega))
  refine ⟨out2, ?_, r2⟩
  rw [hd, List.foldlM_cons]
  unfold frontB at r1 ⊢
  rw [if_pos (by rw [od.hlen]; omega), q1]
  exact r1
end
section
variable (a0 : ByteArray) (l1 : List ByteArray) (a2 : ByteArray) (l3 : List ByteArray) (l4 : List S58) (l : List S40)
/-- All that the laws ask of the tree. -/
structure Dm (l : List S40) (o at_ nr : List Int) (s : List Bool) : Prop where
 od : Ord l.length o at_ (aheadRows l)
 gd : Good (aheadRows l) l.length at_ nr
 sl : s.length = l.length
 re : ∀ x, fnI l.length at_ x ≠ -1 ↔ hasR s x
theorem dm_all (hn : 1 ≤ l.length) (hl : l.length ≤ 30) : ∃ o at_ nr s out, Dm l o at_ nr s ∧ growO a0 l1 a2 l3 l4 l = some (o, at_, aheadRows l, nr.set 0 (-1)) ∧ flow_Reached.f a0 l1 a2 l3 l4 l = some s ∧
  dom_Front.f a0 l1 a2 l3 l4 l = some (out.map sortC) ∧ Snd l.length (aheadRows l) at_ (l.length * 2000000) out ∧ ((List.range l.length).foldlM (frontB at_ (aheadRows l) (nr.set 0 (-1)) (fuelD l.length)) (List.replicate l.length [])) = some out := by
 obtain ⟨o, at_, nr, s, g1, od, gd, r1, r2, r3⟩ := grow_is a0 l1 a2 l3 l4 l hn (by omega)
 have hrow : ∀ b : Nat, (rowOf (aheadRows l) b).length ≤ 2000000 := fun b => by
  by_cases hb : b < l.length
  ·have e : rowOf (aheadRows l) (b : Int) = aheadTo l l.length (b : Int) := by
    unfold rowOf aheadRows
    rw [getD_at _ _ (by simp; omega)]
    simp
   rw [e]
   have := ahead_len l (b : Int) l.length
   omega
  ·rw [rows_none (by omega) (by omega)]
   simp
 obtain ⟨out, f1, f2⟩ := blocks od gd (fuelD l.length) (by unfold fuelD; omega) (by omega) hrow l.length 0 (List.replicate l.length []) (by omega) ⟨List.length_replicate, fun a => by
   unfold rowOf; rw [List.getD_eq_getElem?_getD, List.getElem?_replicate]; split <;> simp, fun a a0 a1 x hx => by
   unfold rowOf at hx; rw [getD_at _ _ (by rw [List.length_replicate]; omega), List.getElem_replicate] at hx; cases hx⟩
 rw [List.drop_zero] at f1
 refine ⟨o, at_, nr, s, out, ⟨od, gd, r2, r3⟩, g1, r1, ?_, f2, f1⟩
 have hh : out.length = l.length ∧ ∀ r ∈ out, r.length < LIMF := ⟨f2.len, fun r hr => by
  obtain ⟨i, hi, rfl⟩ := List.mem_iff_getElem.mp hr
  have := f2.few (i : Int)
  unfold rowOf at this
  rw [Int.toNat_natCast, getD_at _ _ hi] at this
  exact Nat.lt_of_le_of_lt this (by unfold LIMF; omega)⟩
 unfold dom_Front.f
 rw [if_neg (by omega), if_neg (by omega), g1, Option.bind_some]
 simp only
 rw [f1, Option.bind_some, if_pos hh]
theorem is_all {o at_ nr : List Int} {s : List Bool} (D : Dm l o at_ nr s) (hg : growO a0 l1 a2 l3 l4 l = some (o, at_, aheadRows l, nr.set 0 (-1))) (a b : Int) : dom_Is.f a0 l1 a2 l3 l4 l a b = some (decB (fnI l.length at_ a ≠ -1 ∧ Domi (prevI l.length (aheadRows l)) (fnI l.length at_) a b)) := by
 unfold dom_Is.f
 split
 ·rename_i h
  rw [hg, Option.bind_some]
  exact is_spec D.od D.gd _ (by unfold fuelD; omega) h.1 h.2.2.1 h.2.1 h.2.2.2
 ·rename_i h
  rw [decB_false]
  rintro ⟨h1, h2⟩
  have q1 := fnI_in h1
  have q2 := fnI_in h2.1
  exact h ⟨q1.1, q2.1, q1.2, q2.2⟩
end
end Go.Proofs.Ytclhjalgflebfaa.Q

/- Dom, plain law: the anchor, and what is more than is asked. -/

namespace Go.Proofs.Ytclhjalgflebfaa.Q
open Go.RowKit Go.Proofs.YtclhjalgflebfaaW.PrintWords Go.Proofs.YtclhjalgflebfaaW.PrintLast Go.Proofs.YtclhjalgflebfaaW.PrintMore
set_option linter.unusedVariables false
set_option linter.unusedSimpArgs false
theorem awake_true : Ev (fun k => truantlaw10_awake.f k) true := by
 have h : truantlaw10_awake.f 40 = some true := by kernel_rfl
 exact Ev.of (fun k => truantlaw10_awake.mono k) h
end Go.Proofs.Ytclhjalgflebfaa.Q

/- Those that dominate a block stand in a row, by their nearest ones. -/
namespace Go.Proofs.Ytclhjalgflebfaa.Q
open Go.RowKit Go.Proofs.YtclhjalgflebfaaW.PrintWords Go.Proofs.YtclhjalgflebfaaW.PrintLast Go.Proofs.YtclhjalgflebfaaW.PrintMore
set_option linter.unusedVariables false
set_option linter.unusedSimpArgs false
/-- How many hold, of those below n. -/
noncomputable def cntI (n : Nat) (p : Int → Prop) : Nat := ((List.range n).filter (fun a : Nat => decB (p (a : Int)))).length
theorem cnt_le (n : Nat) (p : Int → Prop) : cntI n p ≤ n := by
 have := List.length_filter_le (fun a : Nat => decB (p (a : Int))) (List.range n)
 rwa [List.length_range] at this
theorem cnt_succ (n : Nat) (p : Int → Prop) : cntI (n + 1) p = cntI n p + (if decB (p (n : Int)) = true then 1 else 0) := by
 unfold cntI
 rw [List.range_succ, List.filter_append, List.length_append]
 congr 1
 rw [List.filter_cons]
 split <;> rfl
/-- One more: c, of whom the second doesn't hold. -/
theorem cnt_one (p q : Int → Prop) (c : Nat) (h : ∀ a : Nat, p a ↔ (a = c ∨ q a)) (hc : ¬ q c) : ∀ n, cntI n p = cntI n q + (if c < n then 1 else 0) := by
 intro n
 induction n with
 | zero => rfl
 | succ n ih =>
  rw [cnt_succ, cnt_succ, ih]
  by_cases e : n = c
  ·subst e
   rw [decB_true ((h n).mpr (.inl rfl)), decB_false hc, if_neg (Nat.lt_irrefl _), if_pos (Nat.lt_succ_self _)]
   simp
  ·have e2 : decB (p (n : Int)) = decB (q (n : Int)) := decB_iff ⟨fun k => ((h n).mp k).resolve_left e, fun k => (h n).mpr (.inr k)⟩
   have e3 : (if c < n + 1 then 1 else 0 : Nat) = (if c < n then 1 else 0) := by
    by_cases hlt : c < n
    ·simp [hlt, show c < n + 1 by omega]
    ·simp [hlt, show ¬ c < n + 1 by omega]
   rw [e2, e3]
   omega
section
variable {l : List S40} {o at_ nr : List Int} {s : List Bool}
/-- Whether a dominates b, as Is tells it. -/
def IsD (l : List S40) (at_ : List Int) (a b : Int) : Prop := fnI l.length at_ a ≠ -1 ∧ Domi (prevI l.length (aheadRows l)) (fnI l.length at_) a b
theorem isD_on (D : Dm l o at_ nr s) {a b : Int} (hb : fnI l.length at_ b ≠ -1) : IsD l at_ a b ↔ (fnI l.length at_ a ≠ -1 ∧ On (fnI l.length nr) a b) :=
 ⟨fun h => ⟨h.1, (D.gd.on a b h.1 hb).mpr h.2⟩, fun h => ⟨h.1, (D.gd.on a b h.1 hb).mp h.2⟩⟩
theorem isD_up (D : Dm l o at_ nr s) {a b : Int} (hb : fnI l.length at_ b ≠ -1) (h : IsD l at_ a b) (hne : a ≠ b) : b ≠ 0 ∧ IsD l at_ a (fnI l.length nr b) := by
 obtain ⟨h1, h2⟩ := ((isD_on D hb).mp h).2.next hne
 exact ⟨h1, (isD_on D (D.gd.tr.known _ (D.gd.tr.up b h1 (D.gd.known b hb)).2)).mpr ⟨h.1, h2⟩⟩
theorem cnt_root (D : Dm l o at_ nr s) (hn : 1 ≤ l.length) : cntI l.length (fun a => IsD l at_ a 0) = 1 := by
 have hz : fnI l.length at_ 0 ≠ -1 := by rw [D.od.gr.zero]; decide
 have := cnt_one (fun a => IsD l at_ a 0) (fun _ => False) 0 (fun a => ⟨fun h => .inl (by have := dom_zero D.od.gr h.1 h.2; omega), fun h => by
  rcases h with rfl | h
  ·exact ⟨hz, .self hz⟩
  ·exact h.elim⟩) (fun h => h) l.length
 rw [this, if_pos (by omega)]
 unfold cntI
 rw [List.length_eq_zero_iff.mpr]
 refine List.filter_eq_nil_iff.mpr (fun a _ => ?_)
 rw [decB_false (fun h => h)]
 simp
theorem cnt_up (D : Dm l o at_ nr s) {b : Int} (hb : fnI l.length at_ b ≠ -1) (h0 : b ≠ 0) : cntI l.length (fun a => IsD l at_ a b) = cntI l.length (fun a => IsD l at_ a (fnI l.length nr b)) + 1 := by
 obtain ⟨b0, b1⟩ := fnI_in hb
 have hu := D.gd.tr.up b h0 (D.gd.known b hb)
 have hur := D.gd.tr.known _ hu.2
 have := cnt_one (fun a => IsD l at_ a b) (fun a => IsD l at_ a (fnI l.length nr b)) b.toNat (fun a => ⟨fun h => ?_, fun h => ?_⟩) (fun h => ?_) l.length
 ·rw [this, if_pos (by omega)]
 ·by_cases e : (a : Int) = b
  ·exact .inl (by omega)
  ·exact .inr (isD_up D hb h e).2
 ·rcases h with e | h
  ·have e2 : (a : Int) = b := by omega
   rw [e2]
   exact ⟨hb, .self hb⟩
  ·exact (isD_on D hb).mpr ⟨h.1, .up h0 ((isD_on D hur).mp h).2⟩
 ·rw [show ((b.toNat : Nat) : Int) = b by omega] at h
  have := h.2.le D.od.gr
  omega
/-- The only one that leads to b is its nearest one. -/
theorem one_near (D : Dm l o at_ nr s) {b p : Int} (hb : fnI l.length at_ b ≠ -1) (h0 : b ≠ 0) (hp : ∀ q ∈ prevI l.length (aheadRows l) b, q = p) : fnI l.length nr b = p := by
 have g := D.od.gr
 obtain ⟨q, hq, hqr, hlt⟩ := g.up b hb h0
 have e := hp q hq
 subst e
 have hd : Domi (prevI l.length (aheadRows l)) (fnI l.length at_) q b := ⟨hb, by
  rintro ⟨r, hr⟩
  have key : ∃ q2 r', q2 ∈ prevI l.length (aheadRows l) b ∧ AvR (prevI l.length (aheadRows l)) (fnI l.length at_) q r' q2 := by
   cases hr with
   | zero _ => exact absurd rfl h0
   | @fwd _ q2 _ h hq2 _ _ => exact ⟨q2, _, hq2, h⟩
   | @ret _ q2 _ h hq2 _ _ => exact ⟨q2, _, hq2, h⟩
  obtain ⟨q2, r', hq2, h⟩ := key
  exact h.ne (hp q2 hq2)⟩
 have hne : q ≠ b := fun e => by rw [e] at hlt; omega
 have hu := D.gd.tr.up b h0 (D.gd.known b hb)
 have hur := D.gd.tr.known _ hu.2
 have h1 := (((D.gd.on q b hqr hb).mpr hd).next hne).2
 have h2 : Domi (prevI l.length (aheadRows l)) (fnI l.length at_) (fnI l.length nr b) b := (D.gd.on _ b hur hb).mp (.up h0 .self)
 have h3 : Domi (prevI l.length (aheadRows l)) (fnI l.length at_) (fnI l.length nr b) q := h2.prev_ (fun e => by rw [e] at hu; omega) hq hqr
 have h4 := ((D.gd.on q _ hqr hur).mp h1).le g
 have h5 := h3.le g
 exact g.inj _ _ hur (by omega)
end
section
variable (a0 : ByteArray) (l1 : List ByteArray) (a2 : ByteArray) (l3 : List ByteArray) (l4 : List S58) (l : List S40)
theorem chain_l3 (m : List Int) (r : List (List Int)) (s : List Bool) (x : List (List Int)) (b : Int) (b0 : 0 ≤ b) (b1 : b < (r.length : Int)) (R : List Int) (hR : rd_L2 r b = R) (hf : R.length ≤ 100000000) (hin : ∀ y ∈ R, y = b ∨ dom_Is.f a0 l1 a2 l3 l4 l b y = some false)
  (hend : b = 0 ∨ (b < (x.length : Int) ∧ b < (m.length : Int) ∧ (((rd_L2 x b).length : Int) = 1 → rd m b = rd (rd_L2 x b) 0))) (hnext : Ev (fun n => truantlaw10_DomChain.l0 n m r s x (wrap64 (b + 1)) a0 l1 a2 l3 l4 l) true) :
  ∀ (d k : Nat), R.length - k = d → k ≤ R.length → Ev (fun n => truantlaw10_DomChain.l3 n m r s x b (k : Int) a0 l1 a2 l3 l4 l) true := by
 intro d
 induction d with
 | zero =>
  intro k hd hk
  refine Ev.step (fun k => rfl) (Ev.pos b0 (Ev.pos b1 (Ev.neg (by rw [hR]; omega) ?_)))
  by_cases hz : b = 0
  ·exact Ev.pos hz hnext
  ·obtain ⟨e1, e2, e3⟩ := hend.resolve_left hz
   refine Ev.neg hz (Ev.pos e1 ?_)
   by_cases hl : ((rd_L2 x b).length : Int) = 1
   ·exact Ev.pos hl (Ev.pos e2 (Ev.pos (by omega) (Ev.pos (e3 hl) hnext)))
   ·exact Ev.neg hl hnext
 | succ d ih =>
  intro k hd hk
  have hlt : k < R.length := by omega
  obtain ⟨y, hy⟩ : ∃ y, y = R[k] := ⟨_, rfl⟩
  have hrd : rd R (k : Int) = y := by unfold rd; rw [Int.toNat_natCast, getD_at _ _ hlt, hy]
  have h1 := hin y (by rw [hy]; exact List.getElem_mem hlt)
  have h7 := ih (k + 1) (by omega) (by omega)
  have c1 : (k : Int) < ((rd_L2 r b).length : Int) := by rw [hR]; omega
  have wk : wrap64 ((k : Int) + 1) = ((k + 1 : Nat) : Int) := wrap_up (n := R.length) hlt (by omega)
  rw [← wk] at h7
  clear wk
  refine Ev.step (fun k => rfl) (Ev.pos b0 (Ev.pos b1 (Ev.pos c1 (Ev.pos (by omega) ?_))))
  rw [hR, hrd]
  by_cases e : y = b
  ·exact Ev.pos e h7
  ·exact Ev.neg e (Ev.one (h1.resolve_left e) (Ev.neg (by simp) h7))
theorem chain_l2 (m : List Int) (r : List (List Int)) (s : List Bool) (x : List (List Int)) (b : Int) (N : Nat) (hN : N ≤ m.length) (hm : m.length ≤ 1000) (P : Int → Prop) (C : Int → Nat) (hP : ∀ y, P y → 0 ≤ y ∧ y < (m.length : Int) ∧ ((rd m y < 0 ∧ C y = 1) ∨ (0 ≤ rd m y ∧ P (rd m y) ∧ C y = C (rd m y) + 1 ∧ 1 ≤ C (rd m y))))
  (hnext : Ev (fun n => truantlaw10_DomChain.l3 n m r s x b 0 a0 l1 a2 l3 l4 l) true) : ∀ (d : Nat) (y : Int) (st : Nat), C y = d → P y → st + C y = N + 1 → Ev (fun n => truantlaw10_DomChain.l2 n m r s x b (N : Int) (st : Int) y a0 l1 a2 l3 l4 l) true := by
 intro d
 induction d with
 | zero =>
  intro y st hd hy hst
  obtain ⟨_, _, h | h⟩ := hP y hy
  ·omega
  ·omega
 | succ d ih =>
  intro y st hd hy hst
  obtain ⟨y0, y1, h | h⟩ := hP y hy
  ·exact Ev.step (fun k => rfl) (Ev.pos y0 (Ev.pos y1 (Ev.neg (by omega) (Ev.step (fun k => rfl) (Ev.pos (by omega) hnext)))))
  ·obtain ⟨q1, q2, q3, q4⟩ := h
   have h7 := ih (rd m y) (st + 1) (by omega) q2 (by omega)
   have c1 : (st : Int) ≤ (m.length : Int) := by omega
   have wk : wrap64 ((st : Int) + 1) = ((st + 1 : Nat) : Int) := wrap_up (n := st + 1) (by omega) (by omega)
   rw [← wk] at h7
   exact Ev.step (fun k => rfl) (Ev.pos y0 (Ev.pos y1 (Ev.pos q1 (Ev.pos c1 h7))))
theorem chain_l1 (m : List Int) (r : List (List Int)) (s : List Bool) (x : List (List Int)) (b : Int) (b0 : 0 ≤ b) (b1 : b < (m.length : Int)) (hm : m.length ≤ 1000) (q : Int → Prop) (hI : ∀ a : Nat, a < m.length → dom_Is.f a0 l1 a2 l3 l4 l a b = some (decB (q a))) (hU : ∀ a : Nat, a < m.length → q a → (a : Int) ≠ b → dom_Is.f a0 l1 a2 l3 l4 l a (rd m b) = some true)
  (hnext : Ev (fun n => truantlaw10_DomChain.l2 n m r s x b (cntI m.length q : Int) 1 b a0 l1 a2 l3 l4 l) true) : ∀ (d j : Nat), m.length - j = d → j ≤ m.length → Ev (fun n => truantlaw10_DomChain.l1 n m r s x b (cntI j q : Int) (j : Int) a0 l1 a2 l3 l4 l) true := by
 intro d
 induction d with
 | zero =>
  intro j hd hj
  rw [show j = m.length by omega]
  exact Ev.step (fun k => rfl) (Ev.neg (by omega) hnext)
 | succ d ih =>
  intro j hd hj
  have hlt : j < m.length := by omega
  have h7 := ih (j + 1) (by omega) (by omega)
  rw [cnt_succ] at h7
  have c1 : (j : Int) < (m.length : Int) := by omega
  have c2 := cnt_le j q
  have c3 : cntI j q < m.length := by omega
  have c4 : m.length ≤ 140737488351232 := by omega
  have wj : wrap64 ((j : Int) + 1) = ((j + 1 : Nat) : Int) := wrap_up (n := m.length) hlt c4
  have wc : wrap64 ((cntI j q : Int) + 1) = ((cntI j q + 1 : Nat) : Int) := wrap_up (n := m.length) c3 c4
  refine Ev.step (fun k => rfl) (Ev.pos c1 (Ev.one (hI j hlt) ?_))
  rw [wj, wc]
  by_cases hq : q (j : Int)
  ·rw [decB_true hq, if_pos rfl] at h7
   rw [decB_true hq]
   refine Ev.pos rfl ?_
   by_cases e : (j : Int) = b
   ·exact Ev.pos e h7
   ·exact Ev.neg e (Ev.pos b0 (Ev.pos b1 (Ev.one (hU j hlt hq e) (Ev.pos rfl h7))))
  ·rw [decB_false hq] at h7 ⊢
   exact Ev.neg (by simp) h7
end
theorem DomChain_pure : DomChain.Pure := by
 intro a0 l1 a2 l3 l4 l hwf
 have hev : Ev (fun k => truantlaw10_DomChain.f k a0 l1 a2 l3 l4 l) true := by
  unfold truantlaw10_DomChain.f
  refine Ev.bind awake_true (Ev.pos rfl ?_)
  refine Ev.one (show truantlaw10_wide.f a0 l1 a2 l3 l4 l = some (decide ((l.length : Int) > 30)) from rfl) ?_
  by_cases hw : (l.length : Int) > 30
  ·exact Ev.pos (decide_eq_true hw) (Ev.now _)
  ·refine Ev.neg (by rw [decide_eq_false hw]; simp) ?_
   have hl : l.length ≤ 30 := by omega
   obtain ⟨x, hx, hx1, hx2⟩ := flowAhead a0 l1 a2 l3 l4 l (by omega)
   by_cases hn : 1 ≤ l.length
   ·obtain ⟨o, at_, nr, s, out, D, hg, hR, hF, hS, _⟩ := dm_all a0 l1 a2 l3 l4 l hn hl
    have hI : ∀ a b, dom_Is.f a0 l1 a2 l3 l4 l a b = some (decB (IsD l at_ a b)) := is_all a0 l1 a2 l3 l4 l D hg
    have hN : dom_Nearest.f a0 l1 a2 l3 l4 l = some (nr.set 0 (-1)) := by
     unfold dom_Nearest.f
     rw [if_neg (by omega), hg]
     rfl
    refine Ev.one hN (Ev.one hF (Ev.one hR (Ev.bind hx ?_)))
    have hlen : (out.map sortC).length = l.length := by rw [List.length_map, hS.len]
    obtain ⟨m, hm⟩ : ∃ m, m = nr.set 0 (-1) := ⟨_, rfl⟩
    have hml : m.length = l.length := by rw [hm, List.length_set]; exact D.gd.len
    have hrd : ∀ y, 0 ≤ y → y < (l.length : Int) → rd m y = if y = 0 then -1 else fnI l.length nr y := fun y y0 y1 => by rw [hm]; exact rd_root D.gd.len y0 y1
    obtain ⟨r, hr⟩ : ∃ r, r = out.map sortC := ⟨_, rfl⟩
    have hrow : ∀ b : Nat, b < l.length → rd_L2 r (b : Int) = sortC (rowOf out b) := fun b hb => by
     rw [hr]
     unfold rd_L2 rowOf
     rw [Int.toNat_natCast, getD_at _ _ (by omega), getD_at _ _ (by rw [hS.len]; exact hb), List.getElem_map]
    have hfew : ∀ b : Nat, b < l.length → (rd_L2 r (b : Int)).length ≤ 100000000 := fun b hb => by
     rw [hrow b hb]
     have h1 := hS.few (b : Int)
     have h2 : (sortC (rowOf out b)).length ≤ (rowOf out b).length := by
      have h3 := compact_le ((rowOf out b).mergeSort fun x y => decide (x ≤ y))
      rw [List.length_mergeSort] at h3
      exact h3
     omega
    have hwhy : ∀ b : Nat, b < l.length → ∀ y ∈ rd_L2 r (b : Int), (0 ≤ y ∧ y < (l.length : Int)) ∧ Fr l.length (aheadRows l) at_ b y := fun b hb y hy => by
     rw [hrow b hb] at hy
     exact hS.why (b : Int) (by omega) (by omega) _ (sortC_sub _ _ hy)
    rw [← hr] at hlen
    rw [← hm, ← hr]
    clear hr hrow hm hN hF
    have key : ∀ (d b : Nat), l.length - b = d → b ≤ l.length → Ev (fun n => truantlaw10_DomChain.l0 n m r s x (b : Int) a0 l1 a2 l3 l4 l) true := by
     intro d
     induction d with
     | zero => intro b hd hb; exact Ev.step (fun k => rfl) (Ev.neg (by omega) (Ev.now _))
     | succ d ih =>
      intro b hd hb
      have hbl : b < l.length := by omega
      have h2 := ih (b + 1) (by omega) (by omega)
      rw [← wrap_up (n := l.length) (by omega) (by omega)] at h2
      have hsl := D.sl
      refine Ev.step (fun k => rfl) (Ev.pos (by omega) (Ev.pos (by omega) (Ev.pos (by omega) ?_)))
      by_cases hbr : rdOf false s (b : Int) = true
      ·have hre : fnI l.length at_ (b : Int) ≠ -1 := (D.re _).mpr ⟨by omega, by omega, hbr⟩
       refine Ev.pos hbr (Ev.one (hI 0 b) (Ev.pos (decB_true ⟨by rw [D.od.gr.zero]; decide, zero_dom hre⟩) (Ev.one (hI b b) (Ev.pos (decB_true ⟨hre, .self hre⟩) (Ev.step (fun k => rfl) (Ev.neg ?_ ?_))))))
       ·rw [hrd b (by omega) (by omega)]
        by_cases hz : (b : Int) = 0
        ·rw [if_pos hz, hz]; decide
        ·rw [if_neg hz]
         have h3 := D.gd.known _ hre
         have e1 : (fnI l.length nr (b : Int) == -1) = false := beq_eq_false_iff_ne.mpr h3
         have e2 : ((b : Int) == 0) = false := beq_eq_false_iff_ne.mpr hz
         rw [e1, e2]
         decide
       ·have c0 : (cntI 0 (fun a => IsD l at_ a b) : Int) = 0 := rfl
        rw [← c0]
        refine chain_l1 a0 l1 a2 l3 l4 l m r s x b (by omega) (by omega) (by omega) (fun a => IsD l at_ a b) (fun a ha => hI a b) (fun a ha hq hne => ?_) ?_ _ 0 rfl (Nat.zero_le _)
        ·obtain ⟨e1, e2⟩ := isD_up D hre hq hne
         rw [hrd b (by omega) (by omega), if_neg e1, hI, decB_true e2]
        ·rw [hml]
         refine chain_l2 a0 l1 a2 l3 l4 l m r s x b _ (by rw [hml]; exact cnt_le _ _) (by omega) (fun y => fnI l.length at_ y ≠ -1) (fun y => cntI l.length (fun a => IsD l at_ a y)) (fun y hy => ?_) ?_ _ (b : Int) 1 rfl hre (by omega)
         ·obtain ⟨y0, y1⟩ := fnI_in hy
          refine ⟨y0, by omega, ?_⟩
          rw [hrd y y0 y1]
          by_cases hz : y = 0
          ·rw [if_pos hz, hz]
           exact .inl ⟨by decide, cnt_root D hn⟩
          ·rw [if_neg hz]
           have hu := D.gd.tr.known _ (D.gd.tr.up y hz (D.gd.known y hy)).2
           refine .inr ⟨(fnI_in hu).1, hu, cnt_up D hy hz, ?_⟩
           by_cases hz2 : fnI l.length nr y = 0
           ·rw [hz2, cnt_root D hn]; exact Nat.le_refl _
           ·rw [cnt_up D hu hz2]; omega
         ·refine chain_l3 a0 l1 a2 l3 l4 l m r s x b (by omega) (by omega) _ rfl (hfew b hbl) (fun y hy => ?_) ?_ h2 _ 0 rfl (Nat.zero_le _)
          ·obtain ⟨_, _, _, _, _, _, h | h⟩ := hwhy b hbl y hy
           ·exact .inl h.symm
           ·exact .inr (by rw [hI, decB_false (fun k => h k.2)])
          ·by_cases hz : (b : Int) = 0
           ·exact .inl hz
           ·refine .inr ⟨by omega, by omega, fun h1 => ?_⟩
            have hA : rd_L2 x (b : Int) = aheadTo l l.length b := by
             unfold rd_L2
             rw [Int.toNat_natCast, hx2 b hbl]
            have hP : prevI l.length (aheadRows l) (b : Int) = aheadTo l l.length b := by
             rw [prevI_in (by omega) (by omega)]
             unfold rowOf aheadRows
             rw [getD_at _ _ (by simp; omega)]
             simp
            rw [hrd b (by omega) (by omega), if_neg hz]
            refine one_near D hre hz (fun q hq => ?_)
            rw [hP, ← hA] at hq
            generalize rd_L2 x (b : Int) = L at h1 hq ⊢
            match L, h1, hq with
            | [y], _, hq => exact List.mem_singleton.mp hq
            | [], h1, _ => simp at h1
            | y :: z :: L, h1, _ => simp only [List.length_cons] at h1; omega
      ·have hre : fnI l.length at_ (b : Int) = -1 := Classical.byContradiction (fun h => hbr ((D.re _).mp h).2.2)
       have hz : (b : Int) ≠ 0 := fun e => by rw [e, D.od.gr.zero] at hre; omega
       refine Ev.neg hbr (Ev.pos ?_ (Ev.pos (by omega) (Ev.neg ?_ (Ev.one (hI b b) (Ev.neg ?_ h2)))))
       ·rw [hrd b (by omega) (by omega), if_neg hz]
        exact Classical.byContradiction (fun h => D.gd.tr.known _ h hre)
       ·intro h3
        obtain ⟨y, hy⟩ := List.exists_mem_of_length_pos (show 0 < (rd_L2 r (b : Int)).length by omega)
        exact (hwhy b hbl y hy).2.1 hre
       ·rw [decB_false (fun h => h.1 hre)]; simp
    exact key _ 0 rfl (Nat.zero_le _)
   ·obtain rfl : l = [] := List.eq_nil_of_length_eq_zero (by omega)
    refine Ev.one (show dom_Nearest.f a0 l1 a2 l3 l4 [] = some [] from rfl) (Ev.one (show dom_Front.f a0 l1 a2 l3 l4 [] = some [] from rfl) (Ev.one (show flow_Reached.f a0 l1 a2 l3 l4 [] = some [] from rfl) (Ev.bind hx ?_)))
    exact Ev.step (fun k => rfl) (Ev.now _)
 exact hev.rounds
end Go.Proofs.Ytclhjalgflebfaa.Q

