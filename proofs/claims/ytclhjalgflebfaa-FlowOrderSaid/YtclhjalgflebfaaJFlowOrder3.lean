/- What the row of FlowOrder rests on, part 3: contracts of the functions that it reaches, and the plain law. -/
import Derived.Test.YtclhjalgflebfaaJFlowOrder2
/- How an argument of a type reads: out of the form's reading comes the value that the printed walks take. -/
namespace Go.Proofs.Ytclhjalgflebfaa.Q
open Go.RowKit Go.Proofs.YtclhjalgflebfaaW.PrintWords Go.Proofs.YtclhjalgflebfaaW.PrintLast Go.Proofs.YtclhjalgflebfaaW.PrintMore
set_option linter.unusedVariables false
set_option linter.unusedSimpArgs false
/-- What reads at type t reads as a value of kind K, of which Q holds. -/
structure Opens {α : Type} (P : Program) (t : TypeId) (K : Kd α) (Q : α → Prop) : Prop where
 out : ∀ {H : Type} {enc : TypeId × Value → H} {W : World} {base : Nat} {sp : Nat → Bool} {held : Bool} {fuel : Nat} {cs : List Value} {x : DataW H × List MemPlace},
  (∀ n ∈ x.1.weights P t, n ≤ reachBytes) → DataW.trod enc P W base sp held fuel t cs = some x → ∃ y, K.K W y cs ∧ Q y
section
variable {P : Program}
theorem opens_string {t : TypeId} (ht : P.underlying t = some .string) : Opens P t Kd.string (fun s => s.size ≤ 140737488351232) := by
 constructor
 intro H enc W base sp held fuel cs x hw h
 obtain ⟨s, rfl, rfl, hs⟩ : ∃ s : ByteArray, cs = [.string s] ∧ x = (.lit (.string s.data.toList), []) ∧ s.size ≤ maxLen := by
  cases fuel with
  | zero => simp [DataW.trod] at h
  | succ n =>
   unfold DataW.trod at h
   rw [ht] at h
   split at h <;> simp_all
 refine ⟨s, rfl, ?_⟩
 have := hw s.data.toList.length (by simp [DataW.weights])
 rw [Array.length_toList] at this
 exact this
theorem opens_int {t : TypeId} {q : IntKind} (ht : P.underlying t = some (.int q)) : Opens P t (Kd.int q) (fun n => (Lit.int q n).wf = true) := by
 constructor
 intro H enc W base sp held fuel cs x hw h
 obtain ⟨n, rfl, hs⟩ : ∃ n : Int, cs = [.int q n] ∧ (Lit.int q n).wf = true := by
  cases fuel with
  | zero => simp [DataW.trod] at h
  | succ n =>
   unfold DataW.trod at h
   rw [ht] at h
   split at h <;> simp_all
 exact ⟨n, rfl, hs⟩
theorem weights_all {H : Type} {e : TypeId} : ∀ {ds : List (DataW H)} {d : DataW H}, d ∈ ds → ∀ n ∈ d.weights P e, n ∈ DataW.weightsAll P e ds
 | d0 :: ds, d, hd, n, hn => by
  simp only [DataW.weightsAll, List.mem_append]
  rcases List.mem_cons.mp hd with rfl | h
  ·exact .inl hn
  ·exact .inr (weights_all h n hn)
theorem choose_list {α : Type} {p : Nat → α → Prop} : ∀ {n : Nat}, (∀ i, i < n → ∃ y, p i y) → ∃ ys : List α, ys.length = n ∧ ∀ i y, ys[i]? = some y → p i y
 | 0, _ => ⟨[], rfl, fun i y h => by simp at h⟩
 | n + 1, h => by
  obtain ⟨ys, hl, hy⟩ := choose_list (n := n) (fun i hi => h i (by omega))
  obtain ⟨y, hp⟩ := h n (by omega)
  refine ⟨ys ++ [y], by simp [hl], fun i z hz => ?_⟩
  by_cases hi : i < n
  ·rw [List.getElem?_append_left (by omega)] at hz
   exact hy i z hz
  ·have := (List.getElem?_eq_some_iff.mp hz).1
   simp at this
   have e : i = n := by omega
   subst e
   rw [List.getElem?_append_right (by omega)] at hz
   simp [hl] at hz
   subst hz
   exact hp
theorem opens_slice {α : Type} {t e : TypeId} {K : Kd α} {Q : α → Prop} (he : Opens P e K Q) (ht : P.underlying t = some (.slice e)) (hc : P.cellsOf e = K.sz) (bytes : Nat) (hb : P.bytesOf e = bytes) :
  Opens P t (Kd.slice e K) (fun l => l.length * bytes ≤ 140737488351232 ∧ ∀ x ∈ l, Q x) := by
 constructor
 intro H enc W base sp held fuel cs x hw h
 rcases Deep.open_slice ht h with ⟨rfl, rfl⟩ | ⟨a, len, cap, m, n, D, Pl, rfl, _, hl, hm, hmm, rfl, hel⟩
 ·exact ⟨[], ⟨none, 0, rfl, Nat.le_refl _, Kd.C_nil K W⟩, by simp, by simp⟩
 ·have hlm : len ≤ m := by rw [hmm]; split <;> omega
  have hw' : ∀ i, i < len → ∀ k ∈ (D i).weights P e, k ≤ reachBytes := fun i hi k hk => hw k (by
   simp only [DataW.weights, ht, List.mem_cons, List.mem_append]
   exact .inr (.inl (weights_all (List.mem_map.mpr ⟨i, by simpa using hi, rfl⟩) k hk)))
  obtain ⟨ys, hys, hY⟩ := choose_list (n := len) (p := fun i y => (∃ c, c.length = K.sz ∧ K.K W y c ∧ ∀ j u, c[j]? = some u → W.cell? (a.add (i * K.sz + j)) = some u) ∧ Q y) (fun i hi => by
   obtain ⟨c, h1, h2⟩ := hel i (by omega)
   obtain ⟨y, hy, hq⟩ := he.out (hw' i hi) h2
   obtain ⟨_, h3, h4⟩ := World.cells?_some h1
   rw [hc] at h3 h4
   refine ⟨y, ⟨c, h3, hy, fun j u hu => ?_⟩, hq⟩
   have hj : j < K.sz := by
    have := (List.getElem?_eq_some_iff.mp hu).1
    omega
   have h5 := h4 j hj
   rw [Addr.add_add] at h5
   rw [h5, hu])
  have hlen : len ≤ maxLen := by omega
  refine ⟨ys, ⟨some a, cap, by rw [hys], by omega, rfl, by rw [hys]; unfold maxLen at hlen; omega, fun _ => ⟨a, rfl, fun j p hj => (hY j p hj).1⟩⟩, ?_, ?_⟩
  ·have := hw ((((List.range len).map D).length + ((List.range (m - len)).map fun j => D (len + j)).length) * P.bytesOf e) (by simp [DataW.weights, ht])
   rw [hb] at this
   simp only [List.length_map, List.length_range] at this
   have h2 : len * bytes ≤ (len + (m - len)) * bytes := Nat.mul_le_mul_right _ (by omega)
   rw [hys]
   unfold reachBytes at this
   omega
  ·intro x hx
   obtain ⟨i, hi, rfl⟩ := List.mem_iff_getElem.mp hx
   exact (hY i _ (List.getElem?_eq_getElem hi)).2
/-- The fields from one on. -/
structure OpensF {α : Type} (P : Program) (fs : List Field) (off : Nat) (K : Kd α) (Q : α → Prop) : Prop where
 out : ∀ {H : Type} {enc : TypeId × Value → H} {W : World} {base : Nat} {sp : Nat → Bool} {held : Bool} {fuel : Nat} {cs : List Value} {xs : List (DataW H × List MemPlace)},
  cs.length = off + K.sz → (∀ n ∈ DataW.weightsEach P (fs.map (·.type)) (xs.map (·.1)), n ≤ reachBytes) → (fs.mapM fun f => DataW.trod enc P W base sp held fuel f.type ((cs.drop f.offset).take (P.cellsOf f.type))) = some xs → ∃ y, K.K W y (cs.drop off) ∧ Q y
theorem opensF_last {α : Type} {f : Field} {off t : Nat} {K : Kd α} {Q : α → Prop} (h : Opens P t K Q) (h0 : f.type = t) (hc : P.cellsOf t = K.sz) (ho : f.offset = off) : OpensF P [f] off K Q := by
 constructor
 intro H enc W base sp held fuel cs xs hl hw hm
 subst h0
 simp only [List.mapM_cons, List.mapM_nil, Option.pure_def, Option.bind_eq_bind, Option.bind_some] at hm
 obtain ⟨x, hx, hm⟩ := Option.bind_eq_some_iff.mp hm
 obtain rfl := Option.some.inj hm
 rw [hc, ho, List.take_of_length_le (by rw [List.length_drop]; omega)] at hx
 exact h.out (fun n hn => hw n (by simp [DataW.weightsEach, hn])) hx
theorem opensF_cons {α β : Type} {f : Field} {fs : List Field} {off t : Nat} {K : Kd α} {K1 : Kd β} {Q : α → Prop} {Q1 : β → Prop} (h : Opens P t K Q) (h0 : f.type = t) (hc : P.cellsOf t = K.sz) (ho : f.offset = off) (h1 : OpensF P fs (off + K.sz) K1 Q1) :
  OpensF P (f :: fs) off (Kd.pair K K1) (fun p => Q p.1 ∧ Q1 p.2) := by
 constructor
 intro H enc W base sp held fuel cs xs hl hw hm
 subst h0
 have hl : cs.length = off + (K.sz + K1.sz) := hl
 rw [List.mapM_cons] at hm
 simp only [Option.pure_def, Option.bind_eq_bind] at hm
 obtain ⟨x, hx, hm⟩ := Option.bind_eq_some_iff.mp hm
 obtain ⟨xs', hxs, hm⟩ := Option.bind_eq_some_iff.mp hm
 obtain rfl := Option.some.inj hm
 rw [hc, ho] at hx
 obtain ⟨y, hy, hq⟩ := h.out (fun n hn => hw n (by simp only [List.map_cons, DataW.weightsEach, List.mem_append]; exact .inl hn)) hx
 obtain ⟨z, hz, hq1⟩ := h1.out (by omega) (fun n hn => hw n (by simp only [List.map_cons, DataW.weightsEach, List.mem_append]; exact .inr hn)) hxs
 refine ⟨(y, z), ⟨(cs.drop off).take K.sz, cs.drop (off + K.sz), ?_, hy, hz⟩, hq, hq1⟩
 rw [← List.drop_drop, List.take_append_drop]
theorem opens_struct {α β : Type} {t : TypeId} {fs : Array Field} {K : Kd α} {Q : α → Prop} (ht : P.underlying t = some (.struct fs)) (h : OpensF P fs.toList 0 K Q) (hc : P.cellsOf t = K.sz) (g : β → α) (g' : α → β) (hg : ∀ y, g (g' y) = y) : Opens P t (Kd.iso K g) (fun x => Q (g x)) := by
 constructor
 intro H enc W base sp held fuel cs x hw hm
 cases fuel with
 | zero => simp [DataW.trod] at hm
 | succ n =>
  unfold DataW.trod at hm
  rw [ht] at hm
  simp only at hm
  split at hm
  ·rename_i hl
   obtain ⟨xs, hxs, rfl⟩ := Option.map_eq_some_iff.mp hm
   obtain ⟨y, hy, hq⟩ := h.out (cs := cs) (xs := xs) (by rw [hl, hc]; omega) (fun n hn => hw n (by simp only [DataW.weights, ht]; exact hn)) hxs
   exact ⟨g' y, by show K.K W (g (g' y)) cs; rw [hg]; simpa using hy, by show Q (g (g' y)); rw [hg]; exact hq⟩
  ·cases hm
theorem opens_array2 {α β : Type} {t e : TypeId} {K : Kd α} {Q : α → Prop} {k : Kd β} {WF : β → Prop} (mk : α → α → β) (g : β → α × α) (he : Opens P e K Q) (ht : P.underlying t = some (.array 2 e)) (hsz : K.sz = 1) (hce : P.cellsOf e = 1) (hct : P.cellsOf t = 2) (hk : k = Kd.iso (Kd.pair K K) g) (hg : ∀ x y, g (mk x y) = (x, y)) (hQ : ∀ x y, Q x → Q y → WF (mk x y)) : Opens P t k WF := by
 subst hk
 constructor
 intro H enc W base sp held fuel cs x hw hm
 obtain ⟨xs, m, rfl, rfl, hl, hn, hi⟩ := DataW.trod_array ht hm
 rw [hct] at hl
 have hwx : ∀ d, d ∈ xs.map (·.1) → ∀ n ∈ d.weights P e, n ≤ reachBytes := fun d hd n hn => hw n (by simp only [DataW.weights, ht]; exact weights_all hd n hn)
 obtain ⟨d0, d1, rfl⟩ : ∃ d0 d1, xs = [d0, d1] := by
  match xs, hn with
  | [a, b], _ => exact ⟨a, b, rfl⟩
 obtain ⟨c0, c1, rfl⟩ : ∃ c0 c1, cs = [c0, c1] := by
  match cs, hl with
  | [a, b], _ => exact ⟨a, b, rfl⟩
 have h0 := hi 0 (by omega)
 have h1 := hi 1 (by omega)
 rw [hce] at h0 h1
 obtain ⟨y0, hy0, q0⟩ := he.out (hwx d0.1 (by simp)) (show _ = some d0 from h0)
 obtain ⟨y1, hy1, q1⟩ := he.out (hwx d1.1 (by simp)) (show _ = some d1 from h1)
 refine ⟨mk y0 y1, ?_, hQ _ _ q0 q1⟩
 show (Kd.pair K K).K W (g (mk y0 y1)) [c0, c1]
 rw [hg]
 exact ⟨[c0], [c1], rfl, hy0, hy1⟩
theorem opens_struct' {α β : Type} {t : TypeId} {fs : Array Field} {K : Kd α} {Q : α → Prop} {k : Kd β} {WF : β → Prop} (g' : α → β) (g : β → α) (ht : P.underlying t = some (.struct fs)) (h : OpensF P fs.toList 0 K Q) (hc : P.cellsOf t = K.sz) (hk : k = Kd.iso K g) (hg : ∀ y, g (g' y) = y) (hQ : ∀ x, Q (g x) → WF x) : Opens P t k WF := by
 subst hk
 constructor
 intro H enc W base sp held fuel cs x hw hm
 obtain ⟨y, h1, h2⟩ := (opens_struct ht h hc g g' hg).out hw hm
 exact ⟨y, h1, hQ y h2⟩
end
end Go.Proofs.Ytclhjalgflebfaa.Q

namespace Go.Proofs.Ytclhjalgflebfaa.Q
open Go.RowKit Go.Proofs.YtclhjalgflebfaaW.PrintWords Go.Proofs.YtclhjalgflebfaaW.PrintLast Go.Proofs.YtclhjalgflebfaaW.PrintMore
set_option linter.unusedVariables false
set_option linter.unusedSimpArgs false

def WF58 (x : S58) : Prop := ((fun n : Int => (Lit.int .i64 n).wf = true) x.f0) ∧ ((fun s : ByteArray => s.size ≤ 140737488351232) x.f1) ∧ ((fun l : List Int => l.length * 8 ≤ 140737488351232 ∧ ∀ x ∈ l, (fun n : Int => (Lit.int .i64 n).wf = true) x) x.f2) ∧ ((fun n : Int => (Lit.int .i64 n).wf = true) x.f3) ∧ ((fun s : ByteArray => s.size ≤ 140737488351232) x.f4)
theorem opens58 : Opens Try.prog 58 k58 WF58 :=
 opens_struct' (fun p : (Int) × (ByteArray) × (List Int) × (Int) × (ByteArray) => (⟨p.1, p.2.1, p.2.2.1, p.2.2.2.1, p.2.2.2.2⟩ : S58)) (fun x : S58 => (x.f0, x.f1, x.f2, x.f3, x.f4)) Try.underlying58 (opensF_cons (opens_int Try.underlying3) rfl (by kernel_rfl) rfl (opensF_cons (opens_string Try.underlying9) rfl (by kernel_rfl) rfl (opensF_cons (opens_slice (opens_int Try.underlying3) Try.underlying34 (by kernel_rfl) 8 (by kernel_rfl)) rfl (by kernel_rfl) rfl (opensF_cons (opens_int Try.underlying3) rfl (by kernel_rfl) rfl (opensF_last (opens_string Try.underlying9) rfl (by kernel_rfl) rfl))))) (by kernel_rfl) rfl (fun _ => rfl) (fun _ h => h)
def WF38 (x : S38) : Prop := ((fun n : Int => (Lit.int .i64 n).wf = true) x.f0) ∧ ((fun n : Int => (Lit.int .i64 n).wf = true) x.f1)
theorem opens38 : Opens Try.prog 38 k38 WF38 :=
 opens_array2 (fun x y => (⟨x, y⟩ : S38)) (fun x : S38 => (x.f0, x.f1)) (opens_int Try.underlying3) Try.underlying38 rfl (by kernel_rfl) (by kernel_rfl) rfl (fun _ _ => rfl) (fun _ _ hx hy => ⟨hx, hy⟩)
def WF40 (x : S40) : Prop := ((fun l : List Int => l.length * 8 ≤ 140737488351232 ∧ ∀ x ∈ l, (fun n : Int => (Lit.int .i64 n).wf = true) x) x.f0) ∧ ((fun n : Int => (Lit.int .i64 n).wf = true) x.f1) ∧ ((fun n : Int => (Lit.int .i64 n).wf = true) x.f2) ∧ (WF38 x.f3)
theorem opens40 : Opens Try.prog 40 k40 WF40 :=
 opens_struct' (fun p : (List Int) × (Int) × (Int) × (S38) => (⟨p.1, p.2.1, p.2.2.1, p.2.2.2⟩ : S40)) (fun x : S40 => (x.f0, x.f1, x.f2, x.f3)) Try.underlying40 (opensF_cons (opens_slice (opens_int Try.underlying3) Try.underlying34 (by kernel_rfl) 8 (by kernel_rfl)) rfl (by kernel_rfl) rfl (opensF_cons (opens_int Try.underlying3) rfl (by kernel_rfl) rfl (opensF_cons (opens_int Try.underlying3) rfl (by kernel_rfl) rfl (opensF_last opens38 rfl (by kernel_rfl) rfl)))) (by kernel_rfl) rfl (fun _ => rfl) (fun _ h => h)
def WF26 (x : S26) : Prop := ((fun s : ByteArray => s.size ≤ 140737488351232) x.f0) ∧ ((fun l : List ByteArray => l.length * 16 ≤ 140737488351232 ∧ ∀ x ∈ l, (fun s : ByteArray => s.size ≤ 140737488351232) x) x.f1) ∧ ((fun s : ByteArray => s.size ≤ 140737488351232) x.f2) ∧ ((fun l : List ByteArray => l.length * 16 ≤ 140737488351232 ∧ ∀ x ∈ l, (fun s : ByteArray => s.size ≤ 140737488351232) x) x.f3) ∧ ((fun l : List (S58) => l.length * 72 ≤ 140737488351232 ∧ ∀ x ∈ l, WF58 x) x.f4) ∧ ((fun l : List (S40) => l.length * 56 ≤ 140737488351232 ∧ ∀ x ∈ l, WF40 x) x.f5)
theorem opens26 : Opens Try.prog 26 k26 WF26 :=
 opens_struct' (fun p : (ByteArray) × (List ByteArray) × (ByteArray) × (List ByteArray) × (List (S58)) × (List (S40)) => (⟨p.1, p.2.1, p.2.2.1, p.2.2.2.1, p.2.2.2.2.1, p.2.2.2.2.2⟩ : S26)) (fun x : S26 => (x.f0, x.f1, x.f2, x.f3, x.f4, x.f5)) Try.underlying26 (opensF_cons (opens_string Try.underlying9) rfl (by kernel_rfl) rfl (opensF_cons (opens_slice (opens_string Try.underlying9) Try.underlying22 (by kernel_rfl) 16 (by kernel_rfl)) rfl (by kernel_rfl) rfl (opensF_cons (opens_string Try.underlying9) rfl (by kernel_rfl) rfl (opensF_cons (opens_slice (opens_string Try.underlying9) Try.underlying22 (by kernel_rfl) 16 (by kernel_rfl)) rfl (by kernel_rfl) rfl (opensF_cons (opens_slice opens58 Try.underlying23 (by kernel_rfl) 72 (by kernel_rfl)) rfl (by kernel_rfl) rfl (opensF_last (opens_slice opens40 Try.underlying24 (by kernel_rfl) 56 (by kernel_rfl)) rfl (by kernel_rfl) rfl)))))) (by kernel_rfl) rfl (fun _ => rfl) (fun _ h => h)
end Go.Proofs.Ytclhjalgflebfaa.Q

namespace Go.Proofs.Ytclhjalgflebfaa.Q
open Go.RowKit Go.Proofs.YtclhjalgflebfaaW.PrintWords Go.Proofs.YtclhjalgflebfaaW.PrintLast Go.Proofs.YtclhjalgflebfaaW.PrintMore
set_option linter.unusedVariables false
set_option linter.unusedSimpArgs false
def FlowOrder.Pure : Prop := ∀ (a0_0 : ByteArray) (l0_1 : List ByteArray) (a0_2 : ByteArray) (l0_3 : List ByteArray) (l0_4 : List (S58)) (l0_5 : List (S40)), WF26 ⟨a0_0, l0_1, a0_2, l0_3, l0_4, l0_5⟩ → ∃ k, truantlaw09_FlowOrder.f k a0_0 l0_1 a0_2 l0_3 l0_4 l0_5 = some true
end Go.Proofs.Ytclhjalgflebfaa.Q

/- Small words on 'from some number of rounds on'. -/

namespace Go.Proofs.Ytclhjalgflebfaa.Q
open Go.RowKit Go.Proofs.YtclhjalgflebfaaW.PrintWords Go.Proofs.YtclhjalgflebfaaW.PrintLast Go.Proofs.YtclhjalgflebfaaW.PrintMore
set_option linter.unusedVariables false
set_option linter.unusedSimpArgs false
section
variable {α : Type}
theorem Ev.pos {c : Prop} [Decidable c] {A B : Nat → Option α} {r : α} (h : c) (k : Ev A r) : Ev (fun n => if c then A n else B n) r := Ev.congr (fun n => if_pos h) k
theorem Ev.neg {c : Prop} [Decidable c] {A B : Nat → Option α} {r : α} (h : ¬ c) (k : Ev B r) : Ev (fun n => if c then A n else B n) r := Ev.congr (fun n => if_neg h) k
theorem Ev.one {β : Type} {a : Option β} {b : β} {f : Nat → β → Option α} {r : α} (h : a = some b) (k : Ev (fun n => f n b) r) : Ev (fun n => a.bind (f n)) r := Ev.congr (fun n => by rw [h]; rfl) k
end
end Go.Proofs.Ytclhjalgflebfaa.Q

namespace Go.Proofs.Ytclhjalgflebfaa.Q
open Go.RowKit Go.Proofs.YtclhjalgflebfaaW.PrintWords Go.Proofs.YtclhjalgflebfaaW.PrintLast Go.Proofs.YtclhjalgflebfaaW.PrintMore
attribute [local go_sem] max2_int min2_int max_two min_two max_three min_three max_four min_four   -- for this text's walks alone
set_option linter.unusedVariables false
set_option linter.unusedSimpArgs false

end Go.Proofs.Ytclhjalgflebfaa.Q

namespace Go.Proofs.Ytclhjalgflebfaa.Q
open Go.RowKit Go.Proofs.YtclhjalgflebfaaW.PrintWords Go.Proofs.YtclhjalgflebfaaW.PrintLast Go.Proofs.YtclhjalgflebfaaW.PrintMore
attribute [local go_sem] max2_int min2_int max_two min_two max_three min_three max_four min_four   -- for this text's walks alone
set_option linter.unusedVariables false
set_option linter.unusedSimpArgs false

/-! ### truantref09_Next: function 21 -/
mutual
def truantref09_Next.j0 : Nat → Int → List Int → Bool → ByteArray → List ByteArray → ByteArray → List ByteArray → List (S58) → List (S40) → Option (List Int)
 | 0, _, _, _, _, _, _, _, _, _ => none
 | k + 1, x1, x5, x16, x325000, x325001, x325002, x325003, x325004, x325005 => if x16 = true then (some x5) else (if 0 ≤ x1 then (if x1 < (x325005.length : Int) then (if ((rd_T40 x325005 x1).f1) = 1 then (if ((rd_T40 x325005 x1).f3.f0) ≥ 0 then (truantref09_Next.j1 k x5 (decide (((rd_T40 x325005 x1).f3.f0) < (x325005.length : Int))) x325000 x325001 x325002 x325003 x325004 x325005 ((rd_T40 x325005 x1).f0) ((rd_T40 x325005 x1).f1) ((rd_T40 x325005 x1).f2) ((rd_T40 x325005 x1).f3.f0) ((rd_T40 x325005 x1).f3.f1)) else (truantref09_Next.j1 k x5 false x325000 x325001 x325002 x325003 x325004 x325005 ((rd_T40 x325005 x1).f0) ((rd_T40 x325005 x1).f1) ((rd_T40 x325005 x1).f2) ((rd_T40 x325005 x1).f3.f0) ((rd_T40 x325005 x1).f3.f1))) else (if ((rd_T40 x325005 x1).f1) = 2 then (if ((rd_T40 x325005 x1).f3.f0) ≥ 0 then (truantref09_Next.j1 k x5 (decide (((rd_T40 x325005 x1).f3.f0) < (x325005.length : Int))) x325000 x325001 x325002 x325003 x325004 x325005 ((rd_T40 x325005 x1).f0) ((rd_T40 x325005 x1).f1) ((rd_T40 x325005 x1).f2) ((rd_T40 x325005 x1).f3.f0) ((rd_T40 x325005 x1).f3.f1)) else (truantref09_Next.j1 k x5 false x325000 x325001 x325002 x325003 x325004 x325005 ((rd_T40 x325005 x1).f0) ((rd_T40 x325005 x1).f1) ((rd_T40 x325005 x1).f2) ((rd_T40 x325005 x1).f3.f0) ((rd_T40 x325005 x1).f3.f1))) else (truantref09_Next.j1 k x5 false x325000 x325001 x325002 x325003 x325004 x325005 ((rd_T40 x325005 x1).f0) ((rd_T40 x325005 x1).f1) ((rd_T40 x325005 x1).f2) ((rd_T40 x325005 x1).f3.f0) ((rd_T40 x325005 x1).f3.f1)))) else (none)) else (none))
def truantref09_Next.j1 : Nat → List Int → Bool → ByteArray → List ByteArray → ByteArray → List ByteArray → List (S58) → List (S40) → List Int → Int → Int → Int → Int → Option (List Int)
 | 0, _, _, _, _, _, _, _, _, _, _, _, _, _ => none
 | k + 1, x5, x45, x325000, x325001, x325002, x325003, x325004, x325005, x330000, x330001, x330002, x330003, x330004 => if x45 = true then (if x5.length < 17592186044416 then ((some (x5 ++ [x330003] : List Int)).bind fun y330 => (if x330001 = 2 then (if x330004 = x330003 then (some y330) else (if x330004 ≥ 0 then (if x330004 < (x325005.length : Int) then (if y330.length < 17592186044416 then (some (y330 ++ [x330004])) else (none)) else (some y330)) else (some y330))) else (some y330))) else (none)) else (if x330001 = 2 then (if x330004 = x330003 then (some x5) else (if x330004 ≥ 0 then (if x330004 < (x325005.length : Int) then (if x5.length < 17592186044416 then (some (x5 ++ [x330004])) else (none)) else (some x5)) else (some x5))) else (some x5))
end
def truantref09_Next.f (k : Nat) (a0_0 : ByteArray) (l0_1 : List ByteArray) (a0_2 : ByteArray) (l0_3 : List ByteArray) (l0_4 : List (S58)) (l0_5 : List (S40)) (a1 : Int) : Option (List Int) := (some (([] : List Int) : List Int)).bind fun y325 => (if a1 < 0 then (truantref09_Next.j0 k a1 y325 true a0_0 l0_1 a0_2 l0_3 l0_4 l0_5) else (truantref09_Next.j0 k a1 y325 (decide (a1 ≥ (l0_5.length : Int))) a0_0 l0_1 a0_2 l0_3 l0_4 l0_5))
theorem truantref09_Next.mono_l : ∀ k, (∀ y0 y1 y2 y3 y4 y5 y6 y7 y8, LeO (truantref09_Next.j0 k y0 y1 y2 y3 y4 y5 y6 y7 y8) (truantref09_Next.j0 (k + 1) y0 y1 y2 y3 y4 y5 y6 y7 y8)) ∧ (∀ y0 y1 y2 y3 y4 y5 y6 y7 y8 y9 y10 y11 y12, LeO (truantref09_Next.j1 k y0 y1 y2 y3 y4 y5 y6 y7 y8 y9 y10 y11 y12) (truantref09_Next.j1 (k + 1) y0 y1 y2 y3 y4 y5 y6 y7 y8 y9 y10 y11 y12))
 | 0 => ⟨fun _ _ _ _ _ _ _ _ _ r h => by simp [truantref09_Next.j0] at h, fun _ _ _ _ _ _ _ _ _ _ _ _ _ r h => by simp [truantref09_Next.j1] at h⟩
 | k + 1 => by
  obtain ⟨ih0, ih1⟩ := truantref09_Next.mono_l k
  refine ⟨?_, ?_⟩
  ·intro y0 y1 y2 y3 y4 y5 y6 y7 y8
   unfold truantref09_Next.j0
   repeat' first
   | (with_reducible exact ih0 _ _ _ _ _ _ _ _ _)
   | (with_reducible exact ih1 _ _ _ _ _ _ _ _ _ _ _ _ _)
   | (with_reducible exact LeO.refl _)
   | (with_reducible exact LeO.none _)
   | (with_reducible refine LeO.ite ?_ ?_)
   | (with_reducible refine LeO.bind ?_ (fun _ => ?_))
   | exact ih0 _ _ _ _ _ _ _ _ _
   | exact ih1 _ _ _ _ _ _ _ _ _ _ _ _ _
   | exact LeO.none _
   | refine LeO.ite ?_ ?_
   | refine LeO.bind ?_ (fun _ => ?_)
  ·intro y0 y1 y2 y3 y4 y5 y6 y7 y8 y9 y10 y11 y12
   unfold truantref09_Next.j1
   repeat' first
   | (with_reducible exact ih0 _ _ _ _ _ _ _ _ _)
   | (with_reducible exact ih1 _ _ _ _ _ _ _ _ _ _ _ _ _)
   | (with_reducible exact LeO.refl _)
   | (with_reducible exact LeO.none _)
   | (with_reducible refine LeO.ite ?_ ?_)
   | (with_reducible refine LeO.bind ?_ (fun _ => ?_))
   | exact ih0 _ _ _ _ _ _ _ _ _
   | exact ih1 _ _ _ _ _ _ _ _ _ _ _ _ _
   | exact LeO.none _
   | refine LeO.ite ?_ ?_
   | refine LeO.bind ?_ (fun _ => ?_)
theorem truantref09_Next.mono : ∀ a0 a1 a2 a3 a4 a5 a6 k, LeO (truantref09_Next.f k a0 a1 a2 a3 a4 a5 a6) (truantref09_Next.f (k + 1) a0 a1 a2 a3 a4 a5 a6) := by
 intro a0 a1 a2 a3 a4 a5 a6 k
 obtain ⟨ih0, ih1⟩ := truantref09_Next.mono_l k
 unfold truantref09_Next.f
 repeat' first
   | (with_reducible exact ih0 _ _ _ _ _ _ _ _ _)
   | (with_reducible exact ih1 _ _ _ _ _ _ _ _ _ _ _ _ _)
   | (with_reducible exact LeO.refl _)
   | (with_reducible exact LeO.none _)
   | (with_reducible refine LeO.ite ?_ ?_)
   | (with_reducible refine LeO.bind ?_ (fun _ => ?_))
   | exact ih0 _ _ _ _ _ _ _ _ _
   | exact ih1 _ _ _ _ _ _ _ _ _ _ _ _ _
   | exact LeO.none _
   | refine LeO.ite ?_ ?_
   | refine LeO.bind ?_ (fun _ => ?_)
set_option maxHeartbeats 8000000 in
set_option maxRecDepth 100000 in
theorem truantref09_Next.calls (k : Nat) (a0_0 : ByteArray) (A0_1 : Option Addr) (c0_1 : Nat) (l0_1 : List ByteArray) (a0_2 : ByteArray) (A0_3 : Option Addr) (c0_3 : Nat) (l0_3 : List ByteArray) (A0_4 : Option Addr) (c0_4 : Nat) (l0_4 : List (S58)) (A0_5 : Option Addr) (c0_5 : Nat) (l0_5 : List (S40)) (a1 : Int) (r : List Int) (w : World) (hr0_1 : Kd.C Kd.string w A0_1 l0_1.length l0_1) (hc0_1 : l0_1.length ≤ c0_1) (hr0_3 : Kd.C Kd.string w A0_3 l0_3.length l0_3) (hc0_3 : l0_3.length ≤ c0_3) (hr0_4 : Kd.C k58 w A0_4 l0_4.length l0_4) (hc0_4 : l0_4.length ≤ c0_4) (hr0_5 : Kd.C k40 w A0_5 l0_5.length l0_5) (hc0_5 : l0_5.length ≤ c0_5) (h : truantref09_Next.f k a0_0 l0_1 a0_2 l0_3 l0_4 l0_5 a1 = some r) :
  Calls Try.prog 21 #[.agg #[.string a0_0, .slice A0_1 l0_1.length c0_1, .string a0_2, .slice A0_3 l0_3.length c0_3, .slice A0_4 l0_4.length c0_4, .slice A0_5 l0_5.length c0_5], .int .i64 a1] w fun e w' => ∃ v0_ : Value, e = .returned (v0_) ∧ Kd.R (Kd.int .i64) 3 w' w.heap.size (fun _ => True) v0_ r ∧ Below w.heap.size w w' := by
 have hu26 := Try.underlying26
 have hu40 := Try.underlying40
 have HR0_1 := Aside0.mk hr0_1
 have HC0_1 := Aside0.mk hc0_1
 clear hr0_1 hc0_1
 have HR0_3 := Aside0.mk hr0_3
 have HC0_3 := Aside0.mk hc0_3
 clear hr0_3 hc0_3
 have HR0_4 := Aside0.mk hr0_4
 have HC0_4 := Aside0.mk hc0_4
 clear hr0_4 hc0_4
 have HR0_5 := Aside0.mk hr0_5
 have HC0_5 := Aside0.mk hc0_5
 clear hr0_5 hc0_5
 have HB := Aside0.mk (Below.refl w.heap.size w)
 have H : ((some (([] : List Int) : List Int)).bind fun y325 => (if a1 < 0 then (truantref09_Next.j0 k a1 y325 true a0_0 l0_1 a0_2 l0_3 l0_4 l0_5) else (truantref09_Next.j0 k a1 y325 (decide (a1 ≥ (l0_5.length : Int))) a0_0 l0_1 a0_2 l0_3 l0_4 l0_5))) = some r := h
 clear h
 obtain ⟨y325, hy325⟩ : ∃ y_ : List Int, y_ = (([] : List Int)) := ⟨_, rfl⟩
 replace H : (if a1 < 0 then (truantref09_Next.j0 k a1 y325 true a0_0 l0_1 a0_2 l0_3 l0_4 l0_5) else (truantref09_Next.j0 k a1 y325 (decide (a1 ≥ (l0_5.length : Int))) a0_0 l0_1 a0_2 l0_3 l0_4 l0_5)) = some r := by first | (rw [hy325]; with_reducible exact H) | (have H2_ := (Option.bind_some _ _).symm.trans H; rw [hy325]; with_reducible exact H2_) | (have H2_ := (Option.bind_some _ _).symm.trans H; with_reducible exact H2_) | with_reducible exact H | (rw [hy325]; exact H) | exact H
 have Ny325 := Aside0.mk hy325
 clear hy325
 have HC3 := Aside0.mk H
 clear H
 go_enter Try.func21, Try.ntmps21
 go_upto_region 2 with (first | ((with_reducible refine gate_dst (N := 2) rfl ?_); (try (refine gate_guard (by rfl) ?_; dsimp only)); refine box_event ?hg (N := 2) ?hd (cs := #[.string a0_0, .slice A0_1 l0_1.length c0_1, .string a0_2, .slice A0_3 l0_3.length c0_3, .slice A0_4 l0_4.length c0_4, .slice A0_5 l0_5.length c0_5]) (t := 26) ?hr ?_; (case hd => rfl); (case hg => rfl); (case hr => first | (go_simp; done) | (go_simp; rfl)); intro gb324 hg w4 hbox hb; have n0_ := Aside0.mk (below_step (by repeat (first | (with_reducible first | exact HB.out | apply below_alloc | apply pw_below_drewN | apply below_drew1) | exact HB.out)) hb); have n1_ := Aside0.mk (hbox); have n2_ := Aside0.mk ((by rw [hg]; exact (below_size (by repeat (first | (with_reducible first | exact HB.out | apply below_alloc | apply pw_below_drewN | apply below_drew1) | exact HB.out))) : w.heap.size ≤ gb324)); have n3_ := Aside0.mk ((by rw [hg]; exact (below_size (by repeat (first | (with_reducible first | exact HB.out | apply below_alloc | apply pw_below_drewN | apply below_drew1) | exact HB.out))) : w.heap.size ≤ gb324)); clear HB; have HB := n0_; have BK324 := n1_; have GW324 := n2_; have GE324 := n3_; clear n0_ n1_ n2_ n3_; clear hb hbox hg) | ((with_reducible refine gate_dst (N := 7) rfl ?_); (try (refine gate_guard (by rfl) ?_; dsimp only)); refine Kd.R_lit (Kd.int .i64) _ 3 ?hg (N := 7) ?hd (xs := ([] : List Int)) (inner := []) (ok := fun _ => True) (okp := fun _ => True) ?hr ?hp (fun _ hk => hk) trivial (Below.refl _ _) (Nat.le_refl _) (by simp) ?_; (case hd => rfl); (case hg => rfl); (case hr => first | (go_simp; done) | (go_simp; rfl)); (case hp => exact (Reps.none _ _)); intro v326 w5 ho6 hb hg_ hnew_; clear hg_ hnew_; (first | rw [← Ny325.out] at ho6 | (simp only [Int.reduceToNat] at ho6; rw [← Ny325.out] at ho6)); have n0_ := Aside0.mk (Kd.R_lower ho6 (below_size (by repeat (first | (with_reducible first | exact HB.out | apply below_alloc | apply pw_below_drewN | apply below_drew1 | refine below_set ?_ GE324.out) | exact HB.out)))); have n1_ := Aside0.mk (blk_below (g := gb324) (o := .cells #[.string a0_0, .slice A0_1 l0_1.length c0_1, .string a0_2, .slice A0_3 l0_3.length c0_3, .slice A0_4 l0_4.length c0_4, .slice A0_5 l0_5.length c0_5] 26 (0, 0)) (by (with_reducible repeat (first | refine blk_drewN ?_ _ | refine blk_drew ?_ | refine blk_alloc ?_ _)); exact BK324.out) hb); have n2_ := Aside0.mk (below_step (by repeat (first | (with_reducible first | exact HB.out | apply below_alloc | apply pw_below_drewN | apply below_drew1 | refine below_set ?_ GE324.out) | exact HB.out)) hb); clear BK324; clear HB; have HO327 := n0_; have BK324 := n1_; have HB := n2_; clear n0_ n1_ n2_; clear hb ho6))
 (try simp only [Act.put, List.setIfInBounds_toArray, List.set_cons_zero, List.set_cons_succ])
 go_cut [16] (fun v16 wc => ∃ (kq : Nat) (x16_2 : Bool), v16 = .bool x16_2 ∧ Aside0 (truantref09_Next.j0 kq a1 y325 x16_2 a0_0 l0_1 a0_2 l0_3 l0_4 l0_5 = some r) ∧ Aside0 (kq ≤ k) ∧ Aside0 (Kd.R (Kd.int .i64) 3 wc w.heap.size (fun _ => True) v326 y325) ∧ Aside0 (wc.heap[gb324]? = some (.cells #[.string a0_0, (.slice A0_1 l0_1.length c0_1), .string a0_2, (.slice A0_3 l0_3.length c0_3), (.slice A0_4 l0_4.length c0_4), (.slice A0_5 l0_5.length c0_5)] 26 (0, 0))) ∧ Aside0 (Below w.heap.size w wc))
 case first =>
  have H := HC3.out
  clear HC3
  by_cases c7 : a1 < 0
  ·rw [if_pos c7] at H
   have c7b0 : decide (a1 < 0) = true := decide_eq_true c7
   clear c7
   (first | rw [c7b0] | (simp only [i64_w, i32_w]; rw [c7b0]) | skip)
   have H' := Aside0.mk H
   clear H
   go_wp2
   go_meet
   case rel => exact ⟨_, (true), (by first | rfl | (simp; done) | (simp [*]; done)), H', ⟨by first | omega | exact Nat.le_refl _⟩, ⟨by (with_reducible repeat (first | apply Kd.R_alloc | apply Kd.R_drewN | apply Kd.R_drew)); exact HO327.out⟩, ⟨by (with_reducible repeat (first | refine blk_drewN ?_ _ | refine blk_drew ?_ | refine blk_alloc ?_ _)); exact BK324.out⟩, ⟨by repeat (first | (with_reducible first | exact HB.out | apply below_alloc | apply pw_below_drewN | apply below_drew1 | refine below_set ?_ GE324.out) | exact HB.out)⟩⟩
  ·rw [if_neg c7] at H
   have c7b0 : decide (a1 < 0) = false := decide_eq_false c7
   clear c7
   (first | rw [c7b0] | (simp only [i64_w, i32_w]; rw [c7b0]) | skip)
   have H' := Aside0.mk H
   clear H
   have hcz8_0 : w5.cell? ⟨gb324, 0, none⟩ = some (.string a0_0) := (blk_cell BK324.out 0).trans rfl
   have hcz8_1 : w5.cell? ⟨gb324, 1, none⟩ = some (.slice A0_1 l0_1.length c0_1) := (blk_cell BK324.out 1).trans rfl
   have hcz8_2 : w5.cell? ⟨gb324, 2, none⟩ = some (.string a0_2) := (blk_cell BK324.out 2).trans rfl
   have hcz8_3 : w5.cell? ⟨gb324, 3, none⟩ = some (.slice A0_3 l0_3.length c0_3) := (blk_cell BK324.out 3).trans rfl
   have hcz8_4 : w5.cell? ⟨gb324, 4, none⟩ = some (.slice A0_4 l0_4.length c0_4) := (blk_cell BK324.out 4).trans rfl
   have hcz8_5 : w5.cell? ⟨gb324, 5, none⟩ = some (.slice A0_5 l0_5.length c0_5) := (blk_cell BK324.out 5).trans rfl
   have hfz8_0 := blk_frozen BK324.out 0
   have hfz8_1 := blk_frozen BK324.out 1
   have hfz8_2 := blk_frozen BK324.out 2
   have hfz8_3 := blk_frozen BK324.out 3
   have hfz8_4 := blk_frozen BK324.out 4
   have hfz8_5 := blk_frozen BK324.out 5
   go_wp2
   go_meet
   case rel => exact ⟨_, (decide (a1 ≥ (l0_5.length : Int))), (by first | rfl | (simp; done) | (simp [*]; done)), H', ⟨by first | omega | exact Nat.le_refl _⟩, ⟨by (with_reducible repeat (first | apply Kd.R_alloc | apply Kd.R_drewN | apply Kd.R_drew)); exact HO327.out⟩, ⟨by (with_reducible repeat (first | refine blk_drewN ?_ _ | refine blk_drew ?_ | refine blk_alloc ?_ _)); exact BK324.out⟩, ⟨by repeat (first | (with_reducible first | exact HB.out | apply below_alloc | apply pw_below_drewN | apply below_drew1 | refine below_set ?_ GE324.out) | exact HB.out)⟩⟩
 case rest =>
  clear HC3
  try clear c2
  try clear p2
  try clear c7
  try clear c7b0
  try clear hcz8_0
  try clear hcz8_1
  try clear hcz8_2
  try clear hcz8_3
  try clear hcz8_4
  try clear hcz8_5
  try clear hfz8_0
  try clear hfz8_1
  try clear hfz8_2
  try clear hfz8_3
  try clear hfz8_4
  try clear hfz8_5
  obtain ⟨kq, x16_2, rfl, HA, HJ2, HO_5, BK324, HB⟩ := hcut
  cases kq with
  | zero => exact absurd HA.out (by simp [truantref09_Next.j0])
  | succ kj2 =>
   have H := HA.out
   clear HA
   simp only [truantref09_Next.j0] at H
   by_cases c9 : x16_2 = true
   ·subst c9
    have H1 : (some y325) = some r := by rw [if_pos rfl] at H; exact H
    clear H
    have H := H1
    clear H1
    obtain rfl := Option.some.inj H
    go_wp2
    go_ret
    exact ⟨_, by first | rfl | (simp [errW_none, errW_some] <;> rfl) | (simp [*, errW_none, errW_some] <;> rfl), by (with_reducible repeat (first | apply Kd.R_alloc | apply Kd.R_drewN | apply Kd.R_drew)); exact HO_5.out, by repeat (first | (with_reducible first | exact HB.out | apply below_alloc | apply pw_below_drewN | apply below_drew1 | refine below_set ?_ GE324.out) | exact HB.out)⟩
   ·replace c9 := Bool.eq_false_iff.mpr c9
    subst c9
    have H1 : (if 0 ≤ a1 then (if a1 < (l0_5.length : Int) then (if ((rd_T40 l0_5 a1).f1) = 1 then (if ((rd_T40 l0_5 a1).f3.f0) ≥ 0 then (truantref09_Next.j1 kj2 y325 (decide (((rd_T40 l0_5 a1).f3.f0) < (l0_5.length : Int))) a0_0 l0_1 a0_2 l0_3 l0_4 l0_5 ((rd_T40 l0_5 a1).f0) ((rd_T40 l0_5 a1).f1) ((rd_T40 l0_5 a1).f2) ((rd_T40 l0_5 a1).f3.f0) ((rd_T40 l0_5 a1).f3.f1)) else (truantref09_Next.j1 kj2 y325 false a0_0 l0_1 a0_2 l0_3 l0_4 l0_5 ((rd_T40 l0_5 a1).f0) ((rd_T40 l0_5 a1).f1) ((rd_T40 l0_5 a1).f2) ((rd_T40 l0_5 a1).f3.f0) ((rd_T40 l0_5 a1).f3.f1))) else (if ((rd_T40 l0_5 a1).f1) = 2 then (if ((rd_T40 l0_5 a1).f3.f0) ≥ 0 then (truantref09_Next.j1 kj2 y325 (decide (((rd_T40 l0_5 a1).f3.f0) < (l0_5.length : Int))) a0_0 l0_1 a0_2 l0_3 l0_4 l0_5 ((rd_T40 l0_5 a1).f0) ((rd_T40 l0_5 a1).f1) ((rd_T40 l0_5 a1).f2) ((rd_T40 l0_5 a1).f3.f0) ((rd_T40 l0_5 a1).f3.f1)) else (truantref09_Next.j1 kj2 y325 false a0_0 l0_1 a0_2 l0_3 l0_4 l0_5 ((rd_T40 l0_5 a1).f0) ((rd_T40 l0_5 a1).f1) ((rd_T40 l0_5 a1).f2) ((rd_T40 l0_5 a1).f3.f0) ((rd_T40 l0_5 a1).f3.f1))) else (truantref09_Next.j1 kj2 y325 false a0_0 l0_1 a0_2 l0_3 l0_4 l0_5 ((rd_T40 l0_5 a1).f0) ((rd_T40 l0_5 a1).f1) ((rd_T40 l0_5 a1).f2) ((rd_T40 l0_5 a1).f3.f0) ((rd_T40 l0_5 a1).f3.f1)))) else (none)) else (none)) = some r := by rw [if_neg (show ¬ (false = true) by decide)] at H; exact H
    clear H
    have H := H1
    clear H1
    by_cases c10 : 0 ≤ a1
    ·rw [if_pos c10] at H
     have c10b0 : decide (0 ≤ a1) = true := decide_eq_true c10
     clear c10
     by_cases c11 : a1 < (l0_5.length : Int)
     ·rw [if_pos c11] at H
      have c11b0 : decide (a1 < (l0_5.length : Int)) = true := decide_eq_true c11
      clear c11
      have HC12 := Aside0.mk H
      clear H
      have hcz13_0 : wc.cell? ⟨gb324, 0, none⟩ = some (.string a0_0) := (blk_cell BK324.out 0).trans rfl
      have hcz13_1 : wc.cell? ⟨gb324, 1, none⟩ = some (.slice A0_1 l0_1.length c0_1) := (blk_cell BK324.out 1).trans rfl
      have hcz13_2 : wc.cell? ⟨gb324, 2, none⟩ = some (.string a0_2) := (blk_cell BK324.out 2).trans rfl
      have hcz13_3 : wc.cell? ⟨gb324, 3, none⟩ = some (.slice A0_3 l0_3.length c0_3) := (blk_cell BK324.out 3).trans rfl
      have hcz13_4 : wc.cell? ⟨gb324, 4, none⟩ = some (.slice A0_4 l0_4.length c0_4) := (blk_cell BK324.out 4).trans rfl
      have hcz13_5 : wc.cell? ⟨gb324, 5, none⟩ = some (.slice A0_5 l0_5.length c0_5) := (blk_cell BK324.out 5).trans rfl
      have hfz13_0 := blk_frozen BK324.out 0
      have hfz13_1 := blk_frozen BK324.out 1
      have hfz13_2 := blk_frozen BK324.out 2
      have hfz13_3 := blk_frozen BK324.out 3
      have hfz13_4 := blk_frozen BK324.out 4
      have hfz13_5 := blk_frozen BK324.out 5
      have p328 : 0 ≤ (a1 : Int) := of_decide_eq_true (by first | (with_reducible assumption) | assumption)
      have q328 : a1 < (l0_5.length : Int) := of_decide_eq_true (by first | (with_reducible assumption) | assumption)
      obtain ⟨ad328, A328_0, c328_0, e328, hx328_0, hx328_1, hx328_2, hx328_3, hx328_4, hl328_0, hi328_0⟩ := at_T40 HR0_5.out a1 p328 q328
      cases e328
      replace hx328_0 := (HB.out.cell (World.block_lt_of_cell? w _ hx328_0)).trans hx328_0
      replace hx328_1 := (HB.out.cell (World.block_lt_of_cell? w _ hx328_1)).trans hx328_1
      replace hx328_2 := (HB.out.cell (World.block_lt_of_cell? w _ hx328_2)).trans hx328_2
      replace hx328_3 := (HB.out.cell (World.block_lt_of_cell? w _ hx328_3)).trans hx328_3
      replace hx328_4 := (HB.out.cell (World.block_lt_of_cell? w _ hx328_4)).trans hx328_4
      have HR328_0 := Aside0.mk hi328_0
      have HC328_0 := Aside0.mk hl328_0
      clear hi328_0 hl328_0
      replace p328 := eq_true p328
      replace q328 := eq_true q328
      go_upto_region 5 with (first | ((with_reducible refine gate_dst (N := 6) rfl ?_); (try (refine gate_guard (by rfl) ?_; dsimp only)); refine box_event ?hg (N := 6) ?hd (cs := #[.slice none 0 0, .int .i64 0, .int .i64 0, .int .i64 0, .int .i64 0]) (t := 40) ?hr ?_; (case hd => rfl); (case hg => rfl); (case hr => first | (go_simp; done) | (go_simp; rfl)); intro gb329 hg w14 hbox hb; have n0_ := Aside0.mk (Kd.R_below (by (with_reducible repeat (first | apply Kd.R_alloc | apply Kd.R_drewN | apply Kd.R_drew)); exact HO_5.out) hb); have n1_ := Aside0.mk (blk_below (g := gb324) (o := .cells #[.string a0_0, .slice A0_1 l0_1.length c0_1, .string a0_2, .slice A0_3 l0_3.length c0_3, .slice A0_4 l0_4.length c0_4, .slice (some ad328) l0_5.length c0_5] 26 (0, 0)) (by (with_reducible repeat (first | refine blk_drewN ?_ _ | refine blk_drew ?_ | refine blk_alloc ?_ _)); exact BK324.out) hb); have n2_ := Aside0.mk (below_step (by repeat (first | (with_reducible first | exact HB.out | apply below_alloc | apply pw_below_drewN | apply below_drew1 | refine below_set ?_ GE324.out) | exact HB.out)) hb); have n3_ := Aside0.mk (hbox); have n4_ := Aside0.mk ((by rw [hg]; exact (below_size (by repeat (first | (with_reducible first | exact HB.out | apply below_alloc | apply pw_below_drewN | apply below_drew1 | refine below_set ?_ GE324.out) | exact HB.out))) : w.heap.size ≤ gb329)); have n5_ := Aside0.mk ((by rw [hg]; exact (below_size (by repeat (first | (with_reducible first | exact HB.out | apply below_alloc | apply pw_below_drewN | apply below_drew1 | refine below_set ?_ GE324.out) | exact HB.out))) : w.heap.size ≤ gb329)); have n6_ := Aside0.mk ((by rw [hg]; exact Nat.ne_of_lt (blk_lt (g := gb324) (o := .cells #[.string a0_0, .slice A0_1 l0_1.length c0_1, .string a0_2, .slice A0_3 l0_3.length c0_3, .slice A0_4 l0_4.length c0_4, .slice (some ad328) l0_5.length c0_5] 26 (0, 0)) (by (with_reducible repeat (first | refine blk_drewN ?_ _ | refine blk_drew ?_ | refine blk_alloc ?_ _)); exact BK324.out)) : gb324 ≠ gb329)); have n7_ := Aside0.mk ((by rw [hg]; exact Nat.ne_of_gt (blk_lt (g := gb324) (o := .cells #[.string a0_0, .slice A0_1 l0_1.length c0_1, .string a0_2, .slice A0_3 l0_3.length c0_3, .slice A0_4 l0_4.length c0_4, .slice (some ad328) l0_5.length c0_5] 26 (0, 0)) (by (with_reducible repeat (first | refine blk_drewN ?_ _ | refine blk_drew ?_ | refine blk_alloc ?_ _)); exact BK324.out)) : gb329 ≠ gb324)); clear HO_5; clear BK324; clear HB; have HO_5 := n0_; have BK324 := n1_; have HB := n2_; have BK329 := n3_; have GW329 := n4_; have GE329 := n5_; have NB324_329 := n6_; have NB329_324 := n7_; clear n0_ n1_ n2_ n3_ n4_ n5_ n6_ n7_; clear hb hbox hg; have hnb15 := NB329_324.out; have hnc15 := NB324_329.out; have hcz16_0 : w14.cell? ⟨gb329, 0, none⟩ = some (.slice none 0 0) := (blk_cell BK329.out 0).trans rfl; have hcz16_1 : w14.cell? ⟨gb329, 1, none⟩ = some (.int .i64 0) := (blk_cell BK329.out 1).trans rfl; have hcz16_2 : w14.cell? ⟨gb329, 2, none⟩ = some (.int .i64 0) := (blk_cell BK329.out 2).trans rfl; have hcz16_3 : w14.cell? ⟨gb329, 3, none⟩ = some (.int .i64 0) := (blk_cell BK329.out 3).trans rfl; have hcz16_4 : w14.cell? ⟨gb329, 4, none⟩ = some (.int .i64 0) := (blk_cell BK329.out 4).trans rfl; have hfz16_0 := blk_frozen BK329.out 0; have hfz16_1 := blk_frozen BK329.out 1; have hfz16_2 := blk_frozen BK329.out 2; have hfz16_3 := blk_frozen BK329.out 3; have hfz16_4 := blk_frozen BK329.out 4))
      (try simp only [Act.put, List.setIfInBounds_toArray, List.set_cons_zero, List.set_cons_succ])
      go_cut [45] (fun v45 wc => ∃ (kq : Nat) (x45_11 : Bool), v45 = .bool x45_11 ∧ Aside0 (truantref09_Next.j1 kq y325 x45_11 a0_0 l0_1 a0_2 l0_3 l0_4 l0_5 ((rd_T40 l0_5 a1).f0) ((rd_T40 l0_5 a1).f1) ((rd_T40 l0_5 a1).f2) ((rd_T40 l0_5 a1).f3.f0) ((rd_T40 l0_5 a1).f3.f1) = some r) ∧ Aside0 (kq ≤ kj2) ∧ Aside0 (Kd.R (Kd.int .i64) 3 wc w.heap.size (fun _ => True) v326 y325) ∧ Aside0 (wc.heap[gb324]? = some (.cells #[.string a0_0, (.slice A0_1 l0_1.length c0_1), .string a0_2, (.slice A0_3 l0_3.length c0_3), (.slice A0_4 l0_4.length c0_4), (.slice (some ad328) l0_5.length c0_5)] 26 (0, 0))) ∧ Aside0 (wc.heap[gb329]? = some (.cells #[(.slice A328_0 ((rd_T40 l0_5 a1).f0).length c328_0), .int .i64 ((rd_T40 l0_5 a1).f1), .int .i64 ((rd_T40 l0_5 a1).f2), .int .i64 ((rd_T40 l0_5 a1).f3.f0), .int .i64 ((rd_T40 l0_5 a1).f3.f1)] 40 (0, 0))) ∧ Aside0 (Below w.heap.size w wc))
      case first =>
       have H := HC12.out
       clear HC12
       by_cases c17 : ((rd_T40 l0_5 a1).f1) = 1
       ·rw [if_pos c17] at H
        have c17b0 : (((rd_T40 l0_5 a1).f1) == 1) = true := beq_iff_eq.mpr c17
        have c17b1 : (((rd_T40 l0_5 a1).f1) != 1) = false := bne_eq_false_iff_eq.mpr c17
        clear c17
        (first | rw [c17b0] | (simp only [i64_w, i32_w]; rw [c17b0]) | skip)
        by_cases c18 : ((rd_T40 l0_5 a1).f3.f0) ≥ 0
        ·rw [if_pos c18] at H
         have c18b0 : decide (0 ≤ ((rd_T40 l0_5 a1).f3.f0)) = true := decide_eq_true c18
         clear c18
         have H' := Aside0.mk H
         clear H
         have hnb19 := NB329_324.out
         have hnc19 := NB324_329.out
         have hcz20_0 : w14.cell? ⟨gb329, 0, none⟩ = some (.slice none 0 0) := (blk_cell BK329.out 0).trans rfl
         have hcz20_1 : w14.cell? ⟨gb329, 1, none⟩ = some (.int .i64 0) := (blk_cell BK329.out 1).trans rfl
         have hcz20_2 : w14.cell? ⟨gb329, 2, none⟩ = some (.int .i64 0) := (blk_cell BK329.out 2).trans rfl
         have hcz20_3 : w14.cell? ⟨gb329, 3, none⟩ = some (.int .i64 0) := (blk_cell BK329.out 3).trans rfl
         have hcz20_4 : w14.cell? ⟨gb329, 4, none⟩ = some (.int .i64 0) := (blk_cell BK329.out 4).trans rfl
         have hfz20_0 := blk_frozen BK329.out 0
         have hfz20_1 := blk_frozen BK329.out 1
         have hfz20_2 := blk_frozen BK329.out 2
         have hfz20_3 := blk_frozen BK329.out 3
         have hfz20_4 := blk_frozen BK329.out 4
         have hcz21_0 : w14.cell? ⟨gb324, 0, none⟩ = some (.string a0_0) := (blk_cell BK324.out 0).trans rfl
         have hcz21_1 : w14.cell? ⟨gb324, 1, none⟩ = some (.slice A0_1 l0_1.length c0_1) := (blk_cell BK324.out 1).trans rfl
         have hcz21_2 : w14.cell? ⟨gb324, 2, none⟩ = some (.string a0_2) := (blk_cell BK324.out 2).trans rfl
         have hcz21_3 : w14.cell? ⟨gb324, 3, none⟩ = some (.slice A0_3 l0_3.length c0_3) := (blk_cell BK324.out 3).trans rfl
         have hcz21_4 : w14.cell? ⟨gb324, 4, none⟩ = some (.slice A0_4 l0_4.length c0_4) := (blk_cell BK324.out 4).trans rfl
         have hcz21_5 : w14.cell? ⟨gb324, 5, none⟩ = some (.slice (some ad328) l0_5.length c0_5) := (blk_cell BK324.out 5).trans rfl
         have hfz21_0 := blk_frozen BK324.out 0
         have hfz21_1 := blk_frozen BK324.out 1
         have hfz21_2 := blk_frozen BK324.out 2
         have hfz21_3 := blk_frozen BK324.out 3
         have hfz21_4 := blk_frozen BK324.out 4
         have hfz21_5 := blk_frozen BK324.out 5
         go_wp2
         go_meet
         case rel => exact ⟨_, (decide (((rd_T40 l0_5 a1).f3.f0) < (l0_5.length : Int))), (by first | rfl | (simp; done) | (simp [*]; done)), H', ⟨by have := HJ2.out; first | omega | exact Nat.le_refl _⟩, ⟨by (with_reducible repeat (first | apply Kd.R_alloc | apply Kd.R_drewN | apply Kd.R_drew)); exact Kd.R_mono (Kd.R_far (p := ⟨gb329, 4, none⟩) (Kd.R_far (p := ⟨gb329, 3, none⟩) (Kd.R_far (p := ⟨gb329, 2, none⟩) (Kd.R_far (p := ⟨gb329, 1, none⟩) (Kd.R_far (p := ⟨gb329, 0, none⟩) (Kd.R_types HO_5.out BK329.out (by decide)) (fun _ hk => hk.2) (.slice A328_0 ((rd_T40 l0_5 a1).f0).length c328_0)) (fun _ hk => hk.2) (.int .i64 ((rd_T40 l0_5 a1).f1))) (fun _ hk => hk.2) (.int .i64 ((rd_T40 l0_5 a1).f2))) (fun _ hk => hk.2) (.int .i64 ((rd_T40 l0_5 a1).f3.f0))) (fun _ hk => hk.2) (.int .i64 ((rd_T40 l0_5 a1).f3.f1))) (fun _ hk => trivial)⟩, ⟨by (with_reducible repeat (first | refine blk_drewN ?_ _ | refine blk_drew ?_ | refine blk_alloc ?_ _)); refine blk_far ?_ NB324_329.out _; (with_reducible repeat (first | refine blk_drewN ?_ _ | refine blk_drew ?_ | refine blk_alloc ?_ _)); refine blk_far ?_ NB324_329.out _; (with_reducible repeat (first | refine blk_drewN ?_ _ | refine blk_drew ?_ | refine blk_alloc ?_ _)); refine blk_far ?_ NB324_329.out _; (with_reducible repeat (first | refine blk_drewN ?_ _ | refine blk_drew ?_ | refine blk_alloc ?_ _)); refine blk_far ?_ NB324_329.out _; (with_reducible repeat (first | refine blk_drewN ?_ _ | refine blk_drew ?_ | refine blk_alloc ?_ _)); refine blk_far ?_ NB324_329.out _; (with_reducible repeat (first | refine blk_drewN ?_ _ | refine blk_drew ?_ | refine blk_alloc ?_ _)); exact BK324.out⟩, ⟨by (with_reducible repeat (first | refine blk_drewN ?_ _ | refine blk_drew ?_ | refine blk_alloc ?_ _)); refine blk_put (cs := #[.slice A328_0 ((rd_T40 l0_5 a1).f0).length c328_0, .int .i64 ((rd_T40 l0_5 a1).f1), .int .i64 ((rd_T40 l0_5 a1).f2), .int .i64 ((rd_T40 l0_5 a1).f3.f0), .int .i64 0]) ?_ 4 _ rfl; (with_reducible repeat (first | refine blk_drewN ?_ _ | refine blk_drew ?_ | refine blk_alloc ?_ _)); refine blk_put (cs := #[.slice A328_0 ((rd_T40 l0_5 a1).f0).length c328_0, .int .i64 ((rd_T40 l0_5 a1).f1), .int .i64 ((rd_T40 l0_5 a1).f2), .int .i64 0, .int .i64 0]) ?_ 3 _ rfl; (with_reducible repeat (first | refine blk_drewN ?_ _ | refine blk_drew ?_ | refine blk_alloc ?_ _)); refine blk_put (cs := #[.slice A328_0 ((rd_T40 l0_5 a1).f0).length c328_0, .int .i64 ((rd_T40 l0_5 a1).f1), .int .i64 0, .int .i64 0, .int .i64 0]) ?_ 2 _ rfl; (with_reducible repeat (first | refine blk_drewN ?_ _ | refine blk_drew ?_ | refine blk_alloc ?_ _)); refine blk_put (cs := #[.slice A328_0 ((rd_T40 l0_5 a1).f0).length c328_0, .int .i64 0, .int .i64 0, .int .i64 0, .int .i64 0]) ?_ 1 _ rfl; (with_reducible repeat (first | refine blk_drewN ?_ _ | refine blk_drew ?_ | refine blk_alloc ?_ _)); refine blk_put (cs := #[.slice none 0 0, .int .i64 0, .int .i64 0, .int .i64 0, .int .i64 0]) ?_ 0 _ rfl; (with_reducible repeat (first | refine blk_drewN ?_ _ | refine blk_drew ?_ | refine blk_alloc ?_ _)); exact BK329.out⟩, ⟨by repeat (first | (with_reducible first | exact HB.out | apply below_alloc | apply pw_below_drewN | apply below_drew1 | refine below_set ?_ GE324.out | refine below_set ?_ GE329.out) | exact HB.out)⟩⟩
        ·rw [if_neg c18] at H
         have c18b0 : decide (0 ≤ ((rd_T40 l0_5 a1).f3.f0)) = false := decide_eq_false c18
         clear c18
         have H' := Aside0.mk H
         clear H
         have hnb22 := NB329_324.out
         have hnc22 := NB324_329.out
         have hcz23_0 : w14.cell? ⟨gb329, 0, none⟩ = some (.slice none 0 0) := (blk_cell BK329.out 0).trans rfl
         have hcz23_1 : w14.cell? ⟨gb329, 1, none⟩ = some (.int .i64 0) := (blk_cell BK329.out 1).trans rfl
         have hcz23_2 : w14.cell? ⟨gb329, 2, none⟩ = some (.int .i64 0) := (blk_cell BK329.out 2).trans rfl
         have hcz23_3 : w14.cell? ⟨gb329, 3, none⟩ = some (.int .i64 0) := (blk_cell BK329.out 3).trans rfl
         have hcz23_4 : w14.cell? ⟨gb329, 4, none⟩ = some (.int .i64 0) := (blk_cell BK329.out 4).trans rfl
         have hfz23_0 := blk_frozen BK329.out 0
         have hfz23_1 := blk_frozen BK329.out 1
         have hfz23_2 := blk_frozen BK329.out 2
         have hfz23_3 := blk_frozen BK329.out 3
         have hfz23_4 := blk_frozen BK329.out 4
         go_wp2
         go_meet
         case rel => exact ⟨_, (false), (by first | rfl | (simp; done) | (simp [*]; done)), H', ⟨by have := HJ2.out; first | omega | exact Nat.le_refl _⟩, ⟨by (with_reducible repeat (first | apply Kd.R_alloc | apply Kd.R_drewN | apply Kd.R_drew)); exact Kd.R_mono (Kd.R_far (p := ⟨gb329, 4, none⟩) (Kd.R_far (p := ⟨gb329, 3, none⟩) (Kd.R_far (p := ⟨gb329, 2, none⟩) (Kd.R_far (p := ⟨gb329, 1, none⟩) (Kd.R_far (p := ⟨gb329, 0, none⟩) (Kd.R_types HO_5.out BK329.out (by decide)) (fun _ hk => hk.2) (.slice A328_0 ((rd_T40 l0_5 a1).f0).length c328_0)) (fun _ hk => hk.2) (.int .i64 ((rd_T40 l0_5 a1).f1))) (fun _ hk => hk.2) (.int .i64 ((rd_T40 l0_5 a1).f2))) (fun _ hk => hk.2) (.int .i64 ((rd_T40 l0_5 a1).f3.f0))) (fun _ hk => hk.2) (.int .i64 ((rd_T40 l0_5 a1).f3.f1))) (fun _ hk => trivial)⟩, ⟨by (with_reducible repeat (first | refine blk_drewN ?_ _ | refine blk_drew ?_ | refine blk_alloc ?_ _)); refine blk_far ?_ NB324_329.out _; (with_reducible repeat (first | refine blk_drewN ?_ _ | refine blk_drew ?_ | refine blk_alloc ?_ _)); refine blk_far ?_ NB324_329.out _; (with_reducible repeat (first | refine blk_drewN ?_ _ | refine blk_drew ?_ | refine blk_alloc ?_ _)); refine blk_far ?_ NB324_329.out _; (with_reducible repeat (first | refine blk_drewN ?_ _ | refine blk_drew ?_ | refine blk_alloc ?_ _)); refine blk_far ?_ NB324_329.out _; (with_reducible repeat (first | refine blk_drewN ?_ _ | refine blk_drew ?_ | refine blk_alloc ?_ _)); refine blk_far ?_ NB324_329.out _; (with_reducible repeat (first | refine blk_drewN ?_ _ | refine blk_drew ?_ | refine blk_alloc ?_ _)); exact BK324.out⟩, ⟨by (with_reducible repeat (first | refine blk_drewN ?_ _ | refine blk_drew ?_ | refine blk_alloc ?_ _)); refine blk_put (cs := #[.slice A328_0 ((rd_T40 l0_5 a1).f0).length c328_0, .int .i64 ((rd_T40 l0_5 a1).f1), .int .i64 ((rd_T40 l0_5 a1).f2), .int .i64 ((rd_T40 l0_5 a1).f3.f0), .int .i64 0]) ?_ 4 _ rfl; (with_reducible repeat (first | refine blk_drewN ?_ _ | refine blk_drew ?_ | refine blk_alloc ?_ _)); refine blk_put (cs := #[.slice A328_0 ((rd_T40 l0_5 a1).f0).length c328_0, .int .i64 ((rd_T40 l0_5 a1).f1), .int .i64 ((rd_T40 l0_5 a1).f2), .int .i64 0, .int .i64 0]) ?_ 3 _ rfl; (with_reducible repeat (first | refine blk_drewN ?_ _ | refine blk_drew ?_ | refine blk_alloc ?_ _)); refine blk_put (cs := #[.slice A328_0 ((rd_T40 l0_5 a1).f0).length c328_0, .int .i64 ((rd_T40 l0_5 a1).f1), .int .i64 0, .int .i64 0, .int .i64 0]) ?_ 2 _ rfl; (with_reducible repeat (first | refine blk_drewN ?_ _ | refine blk_drew ?_ | refine blk_alloc ?_ _)); refine blk_put (cs := #[.slice A328_0 ((rd_T40 l0_5 a1).f0).length c328_0, .int .i64 0, .int .i64 0, .int .i64 0, .int .i64 0]) ?_ 1 _ rfl; (with_reducible repeat (first | refine blk_drewN ?_ _ | refine blk_drew ?_ | refine blk_alloc ?_ _)); refine blk_put (cs := #[.slice none 0 0, .int .i64 0, .int .i64 0, .int .i64 0, .int .i64 0]) ?_ 0 _ rfl; (with_reducible repeat (first | refine blk_drewN ?_ _ | refine blk_drew ?_ | refine blk_alloc ?_ _)); exact BK329.out⟩, ⟨by repeat (first | (with_reducible first | exact HB.out | apply below_alloc | apply pw_below_drewN | apply below_drew1 | refine below_set ?_ GE324.out | refine below_set ?_ GE329.out) | exact HB.out)⟩⟩
       ·rw [if_neg c17] at H
        have c17b0 : (((rd_T40 l0_5 a1).f1) == 1) = false := beq_eq_false_iff_ne.mpr c17
        have c17b1 : (((rd_T40 l0_5 a1).f1) != 1) = true := bne_iff_ne.mpr c17
        (first | rw [c17b0] | (simp only [i64_w, i32_w]; rw [c17b0]) | skip)
        by_cases c24 : ((rd_T40 l0_5 a1).f1) = 2
        ·rw [if_pos c24] at H
         have c24b0 : (((rd_T40 l0_5 a1).f1) == 2) = true := beq_iff_eq.mpr c24
         have c24b1 : (((rd_T40 l0_5 a1).f1) != 2) = false := bne_eq_false_iff_eq.mpr c24
         clear c24
         by_cases c25 : ((rd_T40 l0_5 a1).f3.f0) ≥ 0
         ·rw [if_pos c25] at H
          have c25b0 : decide (0 ≤ ((rd_T40 l0_5 a1).f3.f0)) = true := decide_eq_true c25
          clear c25
          have H' := Aside0.mk H
          clear H
          have hnb26 := NB329_324.out
          have hnc26 := NB324_329.out
          have hcz27_0 : w14.cell? ⟨gb329, 0, none⟩ = some (.slice none 0 0) := (blk_cell BK329.out 0).trans rfl
          have hcz27_1 : w14.cell? ⟨gb329, 1, none⟩ = some (.int .i64 0) := (blk_cell BK329.out 1).trans rfl
          have hcz27_2 : w14.cell? ⟨gb329, 2, none⟩ = some (.int .i64 0) := (blk_cell BK329.out 2).trans rfl
          have hcz27_3 : w14.cell? ⟨gb329, 3, none⟩ = some (.int .i64 0) := (blk_cell BK329.out 3).trans rfl
          have hcz27_4 : w14.cell? ⟨gb329, 4, none⟩ = some (.int .i64 0) := (blk_cell BK329.out 4).trans rfl
          have hfz27_0 := blk_frozen BK329.out 0
          have hfz27_1 := blk_frozen BK329.out 1
          have hfz27_2 := blk_frozen BK329.out 2
          have hfz27_3 := blk_frozen BK329.out 3
          have hfz27_4 := blk_frozen BK329.out 4
          have hcz28_0 : w14.cell? ⟨gb324, 0, none⟩ = some (.string a0_0) := (blk_cell BK324.out 0).trans rfl
          have hcz28_1 : w14.cell? ⟨gb324, 1, none⟩ = some (.slice A0_1 l0_1.length c0_1) := (blk_cell BK324.out 1).trans rfl
          have hcz28_2 : w14.cell? ⟨gb324, 2, none⟩ = some (.string a0_2) := (blk_cell BK324.out 2).trans rfl
          have hcz28_3 : w14.cell? ⟨gb324, 3, none⟩ = some (.slice A0_3 l0_3.length c0_3) := (blk_cell BK324.out 3).trans rfl
          have hcz28_4 : w14.cell? ⟨gb324, 4, none⟩ = some (.slice A0_4 l0_4.length c0_4) := (blk_cell BK324.out 4).trans rfl
          have hcz28_5 : w14.cell? ⟨gb324, 5, none⟩ = some (.slice (some ad328) l0_5.length c0_5) := (blk_cell BK324.out 5).trans rfl
          have hfz28_0 := blk_frozen BK324.out 0
          have hfz28_1 := blk_frozen BK324.out 1
          have hfz28_2 := blk_frozen BK324.out 2
          have hfz28_3 := blk_frozen BK324.out 3
          have hfz28_4 := blk_frozen BK324.out 4
          have hfz28_5 := blk_frozen BK324.out 5
          go_wp2
          go_meet
          case rel => exact ⟨_, (decide (((rd_T40 l0_5 a1).f3.f0) < (l0_5.length : Int))), (by first | rfl | (simp; done) | (simp [*]; done)), H', ⟨by have := HJ2.out; first | omega | exact Nat.le_refl _⟩, ⟨by (with_reducible repeat (first | apply Kd.R_alloc | apply Kd.R_drewN | apply Kd.R_drew)); exact Kd.R_mono (Kd.R_far (p := ⟨gb329, 4, none⟩) (Kd.R_far (p := ⟨gb329, 3, none⟩) (Kd.R_far (p := ⟨gb329, 2, none⟩) (Kd.R_far (p := ⟨gb329, 1, none⟩) (Kd.R_far (p := ⟨gb329, 0, none⟩) (Kd.R_types HO_5.out BK329.out (by decide)) (fun _ hk => hk.2) (.slice A328_0 ((rd_T40 l0_5 a1).f0).length c328_0)) (fun _ hk => hk.2) (.int .i64 ((rd_T40 l0_5 a1).f1))) (fun _ hk => hk.2) (.int .i64 ((rd_T40 l0_5 a1).f2))) (fun _ hk => hk.2) (.int .i64 ((rd_T40 l0_5 a1).f3.f0))) (fun _ hk => hk.2) (.int .i64 ((rd_T40 l0_5 a1).f3.f1))) (fun _ hk => trivial)⟩, ⟨by (with_reducible repeat (first | refine blk_drewN ?_ _ | refine blk_drew ?_ | refine blk_alloc ?_ _)); refine blk_far ?_ NB324_329.out _; (with_reducible repeat (first | refine blk_drewN ?_ _ | refine blk_drew ?_ | refine blk_alloc ?_ _)); refine blk_far ?_ NB324_329.out _; (with_reducible repeat (first | refine blk_drewN ?_ _ | refine blk_drew ?_ | refine blk_alloc ?_ _)); refine blk_far ?_ NB324_329.out _; (with_reducible repeat (first | refine blk_drewN ?_ _ | refine blk_drew ?_ | refine blk_alloc ?_ _)); refine blk_far ?_ NB324_329.out _; (with_reducible repeat (first | refine blk_drewN ?_ _ | refine blk_drew ?_ | refine blk_alloc ?_ _)); refine blk_far ?_ NB324_329.out _; (with_reducible repeat (first | refine blk_drewN ?_ _ | refine blk_drew ?_ | refine blk_alloc ?_ _)); exact BK324.out⟩, ⟨by (with_reducible repeat (first | refine blk_drewN ?_ _ | refine blk_drew ?_ | refine blk_alloc ?_ _)); refine blk_put (cs := #[.slice A328_0 ((rd_T40 l0_5 a1).f0).length c328_0, .int .i64 ((rd_T40 l0_5 a1).f1), .int .i64 ((rd_T40 l0_5 a1).f2), .int .i64 ((rd_T40 l0_5 a1).f3.f0), .int .i64 0]) ?_ 4 _ rfl; (with_reducible repeat (first | refine blk_drewN ?_ _ | refine blk_drew ?_ | refine blk_alloc ?_ _)); refine blk_put (cs := #[.slice A328_0 ((rd_T40 l0_5 a1).f0).length c328_0, .int .i64 ((rd_T40 l0_5 a1).f1), .int .i64 ((rd_T40 l0_5 a1).f2), .int .i64 0, .int .i64 0]) ?_ 3 _ rfl; (with_reducible repeat (first | refine blk_drewN ?_ _ | refine blk_drew ?_ | refine blk_alloc ?_ _)); refine blk_put (cs := #[.slice A328_0 ((rd_T40 l0_5 a1).f0).length c328_0, .int .i64 ((rd_T40 l0_5 a1).f1), .int .i64 0, .int .i64 0, .int .i64 0]) ?_ 2 _ rfl; (with_reducible repeat (first | refine blk_drewN ?_ _ | refine blk_drew ?_ | refine blk_alloc ?_ _)); refine blk_put (cs := #[.slice A328_0 ((rd_T40 l0_5 a1).f0).length c328_0, .int .i64 0, .int .i64 0, .int .i64 0, .int .i64 0]) ?_ 1 _ rfl; (with_reducible repeat (first | refine blk_drewN ?_ _ | refine blk_drew ?_ | refine blk_alloc ?_ _)); refine blk_put (cs := #[.slice none 0 0, .int .i64 0, .int .i64 0, .int .i64 0, .int .i64 0]) ?_ 0 _ rfl; (with_reducible repeat (first | refine blk_drewN ?_ _ | refine blk_drew ?_ | refine blk_alloc ?_ _)); exact BK329.out⟩, ⟨by repeat (first | (with_reducible first | exact HB.out | apply below_alloc | apply pw_below_drewN | apply below_drew1 | refine below_set ?_ GE324.out | refine below_set ?_ GE329.out) | exact HB.out)⟩⟩
         ·rw [if_neg c25] at H
          have c25b0 : decide (0 ≤ ((rd_T40 l0_5 a1).f3.f0)) = false := decide_eq_false c25
          clear c25
          have H' := Aside0.mk H
          clear H
          have hnb29 := NB329_324.out
          have hnc29 := NB324_329.out
          have hcz30_0 : w14.cell? ⟨gb329, 0, none⟩ = some (.slice none 0 0) := (blk_cell BK329.out 0).trans rfl
          have hcz30_1 : w14.cell? ⟨gb329, 1, none⟩ = some (.int .i64 0) := (blk_cell BK329.out 1).trans rfl
          have hcz30_2 : w14.cell? ⟨gb329, 2, none⟩ = some (.int .i64 0) := (blk_cell BK329.out 2).trans rfl
          have hcz30_3 : w14.cell? ⟨gb329, 3, none⟩ = some (.int .i64 0) := (blk_cell BK329.out 3).trans rfl
          have hcz30_4 : w14.cell? ⟨gb329, 4, none⟩ = some (.int .i64 0) := (blk_cell BK329.out 4).trans rfl
          have hfz30_0 := blk_frozen BK329.out 0
          have hfz30_1 := blk_frozen BK329.out 1
          have hfz30_2 := blk_frozen BK329.out 2
          have hfz30_3 := blk_frozen BK329.out 3
          have hfz30_4 := blk_frozen BK329.out 4
          go_wp2
          go_meet
          case rel => exact ⟨_, (false), (by first | rfl | (simp; done) | (simp [*]; done)), H', ⟨by have := HJ2.out; first | omega | exact Nat.le_refl _⟩, ⟨by (with_reducible repeat (first | apply Kd.R_alloc | apply Kd.R_drewN | apply Kd.R_drew)); exact Kd.R_mono (Kd.R_far (p := ⟨gb329, 4, none⟩) (Kd.R_far (p := ⟨gb329, 3, none⟩) (Kd.R_far (p := ⟨gb329, 2, none⟩) (Kd.R_far (p := ⟨gb329, 1, none⟩) (Kd.R_far (p := ⟨gb329, 0, none⟩) (Kd.R_types HO_5.out BK329.out (by decide)) (fun _ hk => hk.2) (.slice A328_0 ((rd_T40 l0_5 a1).f0).length c328_0)) (fun _ hk => hk.2) (.int .i64 ((rd_T40 l0_5 a1).f1))) (fun _ hk => hk.2) (.int .i64 ((rd_T40 l0_5 a1).f2))) (fun _ hk => hk.2) (.int .i64 ((rd_T40 l0_5 a1).f3.f0))) (fun _ hk => hk.2) (.int .i64 ((rd_T40 l0_5 a1).f3.f1))) (fun _ hk => trivial)⟩, ⟨by (with_reducible repeat (first | refine blk_drewN ?_ _ | refine blk_drew ?_ | refine blk_alloc ?_ _)); refine blk_far ?_ NB324_329.out _; (with_reducible repeat (first | refine blk_drewN ?_ _ | refine blk_drew ?_ | refine blk_alloc ?_ _)); refine blk_far ?_ NB324_329.out _; (with_reducible repeat (first | refine blk_drewN ?_ _ | refine blk_drew ?_ | refine blk_alloc ?_ _)); refine blk_far ?_ NB324_329.out _; (with_reducible repeat (first | refine blk_drewN ?_ _ | refine blk_drew ?_ | refine blk_alloc ?_ _)); refine blk_far ?_ NB324_329.out _; (with_reducible repeat (first | refine blk_drewN ?_ _ | refine blk_drew ?_ | refine blk_alloc ?_ _)); refine blk_far ?_ NB324_329.out _; (with_reducible repeat (first | refine blk_drewN ?_ _ | refine blk_drew ?_ | refine blk_alloc ?_ _)); exact BK324.out⟩, ⟨by (with_reducible repeat (first | refine blk_drewN ?_ _ | refine blk_drew ?_ | refine blk_alloc ?_ _)); refine blk_put (cs := #[.slice A328_0 ((rd_T40 l0_5 a1).f0).length c328_0, .int .i64 ((rd_T40 l0_5 a1).f1), .int .i64 ((rd_T40 l0_5 a1).f2), .int .i64 ((rd_T40 l0_5 a1).f3.f0), .int .i64 0]) ?_ 4 _ rfl; (with_reducible repeat (first | refine blk_drewN ?_ _ | refine blk_drew ?_ | refine blk_alloc ?_ _)); refine blk_put (cs := #[.slice A328_0 ((rd_T40 l0_5 a1).f0).length c328_0, .int .i64 ((rd_T40 l0_5 a1).f1), .int .i64 ((rd_T40 l0_5 a1).f2), .int .i64 0, .int .i64 0]) ?_ 3 _ rfl; (with_reducible repeat (first | refine blk_drewN ?_ _ | refine blk_drew ?_ | refine blk_alloc ?_ _)); refine blk_put (cs := #[.slice A328_0 ((rd_T40 l0_5 a1).f0).length c328_0, .int .i64 ((rd_T40 l0_5 a1).f1), .int .i64 0, .int .i64 0, .int .i64 0]) ?_ 2 _ rfl; (with_reducible repeat (first | refine blk_drewN ?_ _ | refine blk_drew ?_ | refine blk_alloc ?_ _)); refine blk_put (cs := #[.slice A328_0 ((rd_T40 l0_5 a1).f0).length c328_0, .int .i64 0, .int .i64 0, .int .i64 0, .int .i64 0]) ?_ 1 _ rfl; (with_reducible repeat (first | refine blk_drewN ?_ _ | refine blk_drew ?_ | refine blk_alloc ?_ _)); refine blk_put (cs := #[.slice none 0 0, .int .i64 0, .int .i64 0, .int .i64 0, .int .i64 0]) ?_ 0 _ rfl; (with_reducible repeat (first | refine blk_drewN ?_ _ | refine blk_drew ?_ | refine blk_alloc ?_ _)); exact BK329.out⟩, ⟨by repeat (first | (with_reducible first | exact HB.out | apply below_alloc | apply pw_below_drewN | apply below_drew1 | refine below_set ?_ GE324.out | refine below_set ?_ GE329.out) | exact HB.out)⟩⟩
        ·rw [if_neg c24] at H
         have c24b0 : (((rd_T40 l0_5 a1).f1) == 2) = false := beq_eq_false_iff_ne.mpr c24
         have c24b1 : (((rd_T40 l0_5 a1).f1) != 2) = true := bne_iff_ne.mpr c24
         have H' := Aside0.mk H
         clear H
         have hnb31 := NB329_324.out
         have hnc31 := NB324_329.out
         have hcz32_0 : w14.cell? ⟨gb329, 0, none⟩ = some (.slice none 0 0) := (blk_cell BK329.out 0).trans rfl
         have hcz32_1 : w14.cell? ⟨gb329, 1, none⟩ = some (.int .i64 0) := (blk_cell BK329.out 1).trans rfl
         have hcz32_2 : w14.cell? ⟨gb329, 2, none⟩ = some (.int .i64 0) := (blk_cell BK329.out 2).trans rfl
         have hcz32_3 : w14.cell? ⟨gb329, 3, none⟩ = some (.int .i64 0) := (blk_cell BK329.out 3).trans rfl
         have hcz32_4 : w14.cell? ⟨gb329, 4, none⟩ = some (.int .i64 0) := (blk_cell BK329.out 4).trans rfl
         have hfz32_0 := blk_frozen BK329.out 0
         have hfz32_1 := blk_frozen BK329.out 1
         have hfz32_2 := blk_frozen BK329.out 2
         have hfz32_3 := blk_frozen BK329.out 3
         have hfz32_4 := blk_frozen BK329.out 4
         go_wp2
         go_meet
         case rel => exact ⟨_, (false), (by first | rfl | (simp; done) | (simp [*]; done)), H', ⟨by have := HJ2.out; first | omega | exact Nat.le_refl _⟩, ⟨by (with_reducible repeat (first | apply Kd.R_alloc | apply Kd.R_drewN | apply Kd.R_drew)); exact Kd.R_mono (Kd.R_far (p := ⟨gb329, 4, none⟩) (Kd.R_far (p := ⟨gb329, 3, none⟩) (Kd.R_far (p := ⟨gb329, 2, none⟩) (Kd.R_far (p := ⟨gb329, 1, none⟩) (Kd.R_far (p := ⟨gb329, 0, none⟩) (Kd.R_types HO_5.out BK329.out (by decide)) (fun _ hk => hk.2) (.slice A328_0 ((rd_T40 l0_5 a1).f0).length c328_0)) (fun _ hk => hk.2) (.int .i64 ((rd_T40 l0_5 a1).f1))) (fun _ hk => hk.2) (.int .i64 ((rd_T40 l0_5 a1).f2))) (fun _ hk => hk.2) (.int .i64 ((rd_T40 l0_5 a1).f3.f0))) (fun _ hk => hk.2) (.int .i64 ((rd_T40 l0_5 a1).f3.f1))) (fun _ hk => trivial)⟩, ⟨by (with_reducible repeat (first | refine blk_drewN ?_ _ | refine blk_drew ?_ | refine blk_alloc ?_ _)); refine blk_far ?_ NB324_329.out _; (with_reducible repeat (first | refine blk_drewN ?_ _ | refine blk_drew ?_ | refine blk_alloc ?_ _)); refine blk_far ?_ NB324_329.out _; (with_reducible repeat (first | refine blk_drewN ?_ _ | refine blk_drew ?_ | refine blk_alloc ?_ _)); refine blk_far ?_ NB324_329.out _; (with_reducible repeat (first | refine blk_drewN ?_ _ | refine blk_drew ?_ | refine blk_alloc ?_ _)); refine blk_far ?_ NB324_329.out _; (with_reducible repeat (first | refine blk_drewN ?_ _ | refine blk_drew ?_ | refine blk_alloc ?_ _)); refine blk_far ?_ NB324_329.out _; (with_reducible repeat (first | refine blk_drewN ?_ _ | refine blk_drew ?_ | refine blk_alloc ?_ _)); exact BK324.out⟩, ⟨by (with_reducible repeat (first | refine blk_drewN ?_ _ | refine blk_drew ?_ | refine blk_alloc ?_ _)); refine blk_put (cs := #[.slice A328_0 ((rd_T40 l0_5 a1).f0).length c328_0, .int .i64 ((rd_T40 l0_5 a1).f1), .int .i64 ((rd_T40 l0_5 a1).f2), .int .i64 ((rd_T40 l0_5 a1).f3.f0), .int .i64 0]) ?_ 4 _ rfl; (with_reducible repeat (first | refine blk_drewN ?_ _ | refine blk_drew ?_ | refine blk_alloc ?_ _)); refine blk_put (cs := #[.slice A328_0 ((rd_T40 l0_5 a1).f0).length c328_0, .int .i64 ((rd_T40 l0_5 a1).f1), .int .i64 ((rd_T40 l0_5 a1).f2), .int .i64 0, .int .i64 0]) ?_ 3 _ rfl; (with_reducible repeat (first | refine blk_drewN ?_ _ | refine blk_drew ?_ | refine blk_alloc ?_ _)); refine blk_put (cs := #[.slice A328_0 ((rd_T40 l0_5 a1).f0).length c328_0, .int .i64 ((rd_T40 l0_5 a1).f1), .int .i64 0, .int .i64 0, .int .i64 0]) ?_ 2 _ rfl; (with_reducible repeat (first | refine blk_drewN ?_ _ | refine blk_drew ?_ | refine blk_alloc ?_ _)); refine blk_put (cs := #[.slice A328_0 ((rd_T40 l0_5 a1).f0).length c328_0, .int .i64 0, .int .i64 0, .int .i64 0, .int .i64 0]) ?_ 1 _ rfl; (with_reducible repeat (first | refine blk_drewN ?_ _ | refine blk_drew ?_ | refine blk_alloc ?_ _)); refine blk_put (cs := #[.slice none 0 0, .int .i64 0, .int .i64 0, .int .i64 0, .int .i64 0]) ?_ 0 _ rfl; (with_reducible repeat (first | refine blk_drewN ?_ _ | refine blk_drew ?_ | refine blk_alloc ?_ _)); exact BK329.out⟩, ⟨by repeat (first | (with_reducible first | exact HB.out | apply below_alloc | apply pw_below_drewN | apply below_drew1 | refine below_set ?_ GE324.out | refine below_set ?_ GE329.out) | exact HB.out)⟩⟩
      case rest =>
       clear HC12
       try clear c1
       try clear c2
       try clear p2
       try clear c3
       try clear p3
       try clear q3
       try clear hx3
       try clear c7
       try clear c7b0
       try clear c9
       try clear c10
       try clear c10b0
       try clear c11
       try clear c11b0
       try clear c15
       try clear c17
       try clear c17b0
       try clear c17b1
       try clear c18
       try clear c18b0
       try clear c19
       try clear c21
       try clear c22
       try clear c24
       try clear c24b0
       try clear c24b1
       try clear c25
       try clear c25b0
       try clear c26
       try clear c29
       try clear c31
       try clear c32
       try clear p32
       try clear q32
       try clear hx32
       try clear hcz13_0
       try clear hcz13_1
       try clear hcz13_2
       try clear hcz13_3
       try clear hcz13_4
       try clear hcz13_5
       try clear hcz16_0
       try clear hcz16_1
       try clear hcz16_2
       try clear hcz16_3
       try clear hcz16_4
       try clear hcz20_0
       try clear hcz20_1
       try clear hcz20_2
       try clear hcz20_3
       try clear hcz20_4
       try clear hcz21_0
       try clear hcz21_1
       try clear hcz21_2
       try clear hcz21_3
       try clear hcz21_4
       try clear hcz21_5
       try clear hcz23_0
       try clear hcz23_1
       try clear hcz23_2
       try clear hcz23_3
       try clear hcz23_4
       try clear hcz27_0
       try clear hcz27_1
       try clear hcz27_2
       try clear hcz27_3
       try clear hcz27_4
       try clear hcz28_0
       try clear hcz28_1
       try clear hcz28_2
       try clear hcz28_3
       try clear hcz28_4
       try clear hcz28_5
       try clear hcz30_0
       try clear hcz30_1
       try clear hcz30_2
       try clear hcz30_3
       try clear hcz30_4
       try clear hcz32_0
       try clear hcz32_1
       try clear hcz32_2
       try clear hcz32_3
       try clear hcz32_4
       try clear hcz8_0
       try clear hcz8_1
       try clear hcz8_2
       try clear hcz8_3
       try clear hcz8_4
       try clear hcz8_5
       try clear hfz13_0
       try clear hfz13_1
       try clear hfz13_2
       try clear hfz13_3
       try clear hfz13_4
       try clear hfz13_5
       try clear hfz16_0
       try clear hfz16_1
       try clear hfz16_2
       try clear hfz16_3
       try clear hfz16_4
       try clear hfz20_0
       try clear hfz20_1
       try clear hfz20_2
       try clear hfz20_3
       try clear hfz20_4
       try clear hfz21_0
       try clear hfz21_1
       try clear hfz21_2
       try clear hfz21_3
       try clear hfz21_4
       try clear hfz21_5
       try clear hfz23_0
       try clear hfz23_1
       try clear hfz23_2
       try clear hfz23_3
       try clear hfz23_4
       try clear hfz27_0
       try clear hfz27_1
       try clear hfz27_2
       try clear hfz27_3
       try clear hfz27_4
       try clear hfz28_0
       try clear hfz28_1
       try clear hfz28_2
       try clear hfz28_3
       try clear hfz28_4
       try clear hfz28_5
       try clear hfz30_0
       try clear hfz30_1
       try clear hfz30_2
       try clear hfz30_3
       try clear hfz30_4
       try clear hfz32_0
       try clear hfz32_1
       try clear hfz32_2
       try clear hfz32_3
       try clear hfz32_4
       try clear hfz8_0
       try clear hfz8_1
       try clear hfz8_2
       try clear hfz8_3
       try clear hfz8_4
       try clear hfz8_5
       try clear hx328_0
       try clear hx328_1
       try clear hx328_2
       try clear hx328_3
       try clear hx328_4
       try clear p2
       try clear p328
       try clear q328
       obtain ⟨kq, x45_11, rfl, HA, HJ11, HO_5, BK324, BK329, HB⟩ := hcut
       cases kq with
       | zero => exact absurd HA.out (by simp [truantref09_Next.j1])
       | succ kj11 =>
        have H := HA.out
        clear HA
        simp only [truantref09_Next.j1] at H
        by_cases c33 : x45_11 = true
        ·subst c33
         have H1 : (if y325.length < 17592186044416 then ((some (y325 ++ [((rd_T40 l0_5 a1).f3.f0)] : List Int)).bind fun y330 => (if ((rd_T40 l0_5 a1).f1) = 2 then (if ((rd_T40 l0_5 a1).f3.f1) = ((rd_T40 l0_5 a1).f3.f0) then (some y330) else (if ((rd_T40 l0_5 a1).f3.f1) ≥ 0 then (if ((rd_T40 l0_5 a1).f3.f1) < (l0_5.length : Int) then (if y330.length < 17592186044416 then (some (y330 ++ [((rd_T40 l0_5 a1).f3.f1)])) else (none)) else (some y330)) else (some y330))) else (some y330))) else (none)) = some r := by rw [if_pos rfl] at H; exact H
         clear H
         have H := H1
         clear H1
         by_cases c34 : y325.length < 17592186044416
         ·rw [if_pos c34] at H
          have LMc34 := Aside0.mk c34
          clear c34
          obtain ⟨y330, hy330⟩ : ∃ y_ : List Int, y_ = (y325 ++ [((rd_T40 l0_5 a1).f3.f0)]) := ⟨_, rfl⟩
          replace H : (if ((rd_T40 l0_5 a1).f1) = 2 then (if ((rd_T40 l0_5 a1).f3.f1) = ((rd_T40 l0_5 a1).f3.f0) then (some y330) else (if ((rd_T40 l0_5 a1).f3.f1) ≥ 0 then (if ((rd_T40 l0_5 a1).f3.f1) < (l0_5.length : Int) then (if y330.length < 17592186044416 then (some (y330 ++ [((rd_T40 l0_5 a1).f3.f1)])) else (none)) else (some y330)) else (some y330))) else (some y330)) = some r := by first | (rw [hy330]; with_reducible exact H) | (have H2_ := (Option.bind_some _ _).symm.trans H; rw [hy330]; with_reducible exact H2_) | (have H2_ := (Option.bind_some _ _).symm.trans H; with_reducible exact H2_) | with_reducible exact H | (rw [hy330]; exact H) | exact H
          have Ny330 := Aside0.mk hy330
          clear hy330
          by_cases c35 : ((rd_T40 l0_5 a1).f1) = 2
          ·rw [if_pos c35] at H
           have c35b0 : (((rd_T40 l0_5 a1).f1) == 2) = true := beq_iff_eq.mpr c35
           have c35b1 : (((rd_T40 l0_5 a1).f1) != 2) = false := bne_eq_false_iff_eq.mpr c35
           clear c35
           by_cases c36 : ((rd_T40 l0_5 a1).f3.f1) = ((rd_T40 l0_5 a1).f3.f0)
           ·rw [if_pos c36] at H
            have c36b0 : (((rd_T40 l0_5 a1).f3.f1) == ((rd_T40 l0_5 a1).f3.f0)) = true := beq_iff_eq.mpr c36
            have c36b1 : (((rd_T40 l0_5 a1).f3.f1) != ((rd_T40 l0_5 a1).f3.f0)) = false := bne_eq_false_iff_eq.mpr c36
            clear c36
            obtain rfl := Option.some.inj H
            have hnb37 := NB329_324.out
            have hnc37 := NB324_329.out
            have hcz38_0 : wc.cell? ⟨gb329, 0, none⟩ = some (.slice A328_0 ((rd_T40 l0_5 a1).f0).length c328_0) := (blk_cell BK329.out 0).trans rfl
            have hcz38_1 : wc.cell? ⟨gb329, 1, none⟩ = some (.int .i64 ((rd_T40 l0_5 a1).f1)) := (blk_cell BK329.out 1).trans rfl
            have hcz38_2 : wc.cell? ⟨gb329, 2, none⟩ = some (.int .i64 ((rd_T40 l0_5 a1).f2)) := (blk_cell BK329.out 2).trans rfl
            have hcz38_3 : wc.cell? ⟨gb329, 3, none⟩ = some (.int .i64 ((rd_T40 l0_5 a1).f3.f0)) := (blk_cell BK329.out 3).trans rfl
            have hcz38_4 : wc.cell? ⟨gb329, 4, none⟩ = some (.int .i64 ((rd_T40 l0_5 a1).f3.f1)) := (blk_cell BK329.out 4).trans rfl
            have hfz38_0 := blk_frozen BK329.out 0
            have hfz38_1 := blk_frozen BK329.out 1
            have hfz38_2 := blk_frozen BK329.out 2
            have hfz38_3 := blk_frozen BK329.out 3
            have hfz38_4 := blk_frozen BK329.out 4
            go_wp2_with (first | ((with_reducible refine gate_builtin (b := .append) (xs := #[.tmp 46, .tmp 50]) rfl ?_); (try (refine gate_guard (by rfl) ?_; dsimp only)); at_builtin; refine Kd.R_append (Kd.int .i64) (w0 := w) w.heap.size rfl (.tmp 46) (.tmp 50) 34 3 (.int .i64 0) 8 rfl Try.underlying34 info3 rfl (by decide) (by omega) v326 y325 ((rd_T40 l0_5 a1).f3.f0) [.int .i64 ((rd_T40 l0_5 a1).f3.f0)] (fun _ => True) (fun _ => False) rfl rfl ?aP (fun _ hk => hk.elim) ?aF ?aO ?aB ?aS ?aL ?_; (case aP => exact rfl); (case aB => exact (by repeat (first | (with_reducible first | exact HB.out | apply below_alloc | apply pw_below_drewN | apply below_drew1 | refine below_set ?_ GE324.out | refine below_set ?_ GE329.out) | exact HB.out))); (case aF => exact (fun _ _ => trivial)); (case aO => exact (by (with_reducible repeat (first | apply Kd.R_alloc | apply Kd.R_drewN | apply Kd.R_drew)); exact HO_5.out)); (case aS => exact (below_size (by repeat (first | (with_reducible first | exact HB.out | apply below_alloc | apply pw_below_drewN | apply below_drew1 | refine below_set ?_ GE324.out | refine below_set ?_ GE329.out) | exact HB.out)))); (case aL => have := LMc34.out; omega); intro v331 w39 ho hb hg hat; rw [← Ny330.out] at ho; have n0_ := Aside0.mk (blk_grown (g := gb324) (o := .cells #[.string a0_0, .slice A0_1 l0_1.length c0_1, .string a0_2, .slice A0_3 l0_3.length c0_3, .slice A0_4 l0_4.length c0_4, .slice (some ad328) l0_5.length c0_5] 26 (0, 0)) (by (with_reducible repeat (first | refine blk_drewN ?_ _ | refine blk_drew ?_ | refine blk_alloc ?_ _)); exact BK324.out) hg (Kd.R_ne HO_5.out BK324.out (by decide))); have n1_ := Aside0.mk (blk_grown (g := gb329) (o := .cells #[.slice A328_0 ((rd_T40 l0_5 a1).f0).length c328_0, .int .i64 ((rd_T40 l0_5 a1).f1), .int .i64 ((rd_T40 l0_5 a1).f2), .int .i64 ((rd_T40 l0_5 a1).f3.f0), .int .i64 ((rd_T40 l0_5 a1).f3.f1)] 40 (0, 0)) (by (with_reducible repeat (first | refine blk_drewN ?_ _ | refine blk_drew ?_ | refine blk_alloc ?_ _)); exact BK329.out) hg (Kd.R_ne HO_5.out BK329.out (by decide))); have n2_ := Aside0.mk (hb); have n3_ := Aside0.mk (ho); clear BK324; clear BK329; clear HB; clear HO_5; have BK324 := n0_; have BK329 := n1_; have HB := n2_; have HO332 := n3_; clear n0_ n1_ n2_ n3_; clear ho hb hg hat; have hcz40_0 : w39.cell? ⟨gb329, 0, none⟩ = some (.slice A328_0 ((rd_T40 l0_5 a1).f0).length c328_0) := (blk_cell BK329.out 0).trans rfl; have hcz40_1 : w39.cell? ⟨gb329, 1, none⟩ = some (.int .i64 ((rd_T40 l0_5 a1).f1)) := (blk_cell BK329.out 1).trans rfl; have hcz40_2 : w39.cell? ⟨gb329, 2, none⟩ = some (.int .i64 ((rd_T40 l0_5 a1).f2)) := (blk_cell BK329.out 2).trans rfl; have hcz40_3 : w39.cell? ⟨gb329, 3, none⟩ = some (.int .i64 ((rd_T40 l0_5 a1).f3.f0)) := (blk_cell BK329.out 3).trans rfl; have hcz40_4 : w39.cell? ⟨gb329, 4, none⟩ = some (.int .i64 ((rd_T40 l0_5 a1).f3.f1)) := (blk_cell BK329.out 4).trans rfl; have hfz40_0 := blk_frozen BK329.out 0; have hfz40_1 := blk_frozen BK329.out 1; have hfz40_2 := blk_frozen BK329.out 2; have hfz40_3 := blk_frozen BK329.out 3; have hfz40_4 := blk_frozen BK329.out 4))
            go_ret
            exact ⟨_, by first | rfl | (simp [errW_none, errW_some] <;> rfl) | (simp [*, errW_none, errW_some] <;> rfl), by (with_reducible repeat (first | apply Kd.R_alloc | apply Kd.R_drewN | apply Kd.R_drew)); exact HO332.out, by repeat (first | (with_reducible first | exact HB.out | apply below_alloc | apply pw_below_drewN | apply below_drew1 | refine below_set ?_ GE324.out | refine below_set ?_ GE329.out) | exact HB.out)⟩
           ·rw [if_neg c36] at H
            have c36b0 : (((rd_T40 l0_5 a1).f3.f1) == ((rd_T40 l0_5 a1).f3.f0)) = false := beq_eq_false_iff_ne.mpr c36
            have c36b1 : (((rd_T40 l0_5 a1).f3.f1) != ((rd_T40 l0_5 a1).f3.f0)) = true := bne_iff_ne.mpr c36
            by_cases c41 : ((rd_T40 l0_5 a1).f3.f1) ≥ 0
            ·rw [if_pos c41] at H
             have c41b0 : decide (0 ≤ ((rd_T40 l0_5 a1).f3.f1)) = true := decide_eq_true c41
             clear c41
             by_cases c42 : ((rd_T40 l0_5 a1).f3.f1) < (l0_5.length : Int)
             ·rw [if_pos c42] at H
              have c42b0 : decide (((rd_T40 l0_5 a1).f3.f1) < (l0_5.length : Int)) = true := decide_eq_true c42
              clear c42
              by_cases c43 : y330.length < 17592186044416
              ·rw [if_pos c43] at H
               have LMc43 := Aside0.mk c43
               clear c43
               obtain ⟨y333, hy333⟩ : ∃ y_ : List Int, y_ = (y330 ++ [((rd_T40 l0_5 a1).f3.f1)]) := ⟨_, rfl⟩
               replace H : (some y333) = some r := by first | (rw [hy333]; with_reducible exact H) | (have H2_ := (Option.bind_some _ _).symm.trans H; rw [hy333]; with_reducible exact H2_) | (have H2_ := (Option.bind_some _ _).symm.trans H; with_reducible exact H2_) | with_reducible exact H | (rw [hy333]; exact H) | exact H
               have Ny333 := Aside0.mk hy333
               clear hy333
               obtain rfl := Option.some.inj H
               have hnb44 := NB329_324.out
               have hnc44 := NB324_329.out
               have hcz45_0 : wc.cell? ⟨gb329, 0, none⟩ = some (.slice A328_0 ((rd_T40 l0_5 a1).f0).length c328_0) := (blk_cell BK329.out 0).trans rfl
               have hcz45_1 : wc.cell? ⟨gb329, 1, none⟩ = some (.int .i64 ((rd_T40 l0_5 a1).f1)) := (blk_cell BK329.out 1).trans rfl
               have hcz45_2 : wc.cell? ⟨gb329, 2, none⟩ = some (.int .i64 ((rd_T40 l0_5 a1).f2)) := (blk_cell BK329.out 2).trans rfl
               have hcz45_3 : wc.cell? ⟨gb329, 3, none⟩ = some (.int .i64 ((rd_T40 l0_5 a1).f3.f0)) := (blk_cell BK329.out 3).trans rfl
               have hcz45_4 : wc.cell? ⟨gb329, 4, none⟩ = some (.int .i64 ((rd_T40 l0_5 a1).f3.f1)) := (blk_cell BK329.out 4).trans rfl
               have hfz45_0 := blk_frozen BK329.out 0
               have hfz45_1 := blk_frozen BK329.out 1
               have hfz45_2 := blk_frozen BK329.out 2
               have hfz45_3 := blk_frozen BK329.out 3
               have hfz45_4 := blk_frozen BK329.out 4
               go_wp2_with (first | ((with_reducible refine gate_builtin (b := .append) (xs := #[.tmp 46, .tmp 50]) rfl ?_); (try (refine gate_guard (by rfl) ?_; dsimp only)); at_builtin; refine Kd.R_append (Kd.int .i64) (w0 := w) w.heap.size rfl (.tmp 46) (.tmp 50) 34 3 (.int .i64 0) 8 rfl Try.underlying34 info3 rfl (by decide) (by omega) v326 y325 ((rd_T40 l0_5 a1).f3.f0) [.int .i64 ((rd_T40 l0_5 a1).f3.f0)] (fun _ => True) (fun _ => False) rfl rfl ?aP (fun _ hk => hk.elim) ?aF ?aO ?aB ?aS ?aL ?_; (case aP => exact rfl); (case aB => exact (by repeat (first | (with_reducible first | exact HB.out | apply below_alloc | apply pw_below_drewN | apply below_drew1 | refine below_set ?_ GE324.out | refine below_set ?_ GE329.out) | exact HB.out))); (case aF => exact (fun _ _ => trivial)); (case aO => exact (by (with_reducible repeat (first | apply Kd.R_alloc | apply Kd.R_drewN | apply Kd.R_drew)); exact HO_5.out)); (case aS => exact (below_size (by repeat (first | (with_reducible first | exact HB.out | apply below_alloc | apply pw_below_drewN | apply below_drew1 | refine below_set ?_ GE324.out | refine below_set ?_ GE329.out) | exact HB.out)))); (case aL => have := LMc34.out; omega); intro v331 w46 ho hb hg hat; rw [← Ny330.out] at ho; have n0_ := Aside0.mk (blk_grown (g := gb324) (o := .cells #[.string a0_0, .slice A0_1 l0_1.length c0_1, .string a0_2, .slice A0_3 l0_3.length c0_3, .slice A0_4 l0_4.length c0_4, .slice (some ad328) l0_5.length c0_5] 26 (0, 0)) (by (with_reducible repeat (first | refine blk_drewN ?_ _ | refine blk_drew ?_ | refine blk_alloc ?_ _)); exact BK324.out) hg (Kd.R_ne HO_5.out BK324.out (by decide))); have n1_ := Aside0.mk (blk_grown (g := gb329) (o := .cells #[.slice A328_0 ((rd_T40 l0_5 a1).f0).length c328_0, .int .i64 ((rd_T40 l0_5 a1).f1), .int .i64 ((rd_T40 l0_5 a1).f2), .int .i64 ((rd_T40 l0_5 a1).f3.f0), .int .i64 ((rd_T40 l0_5 a1).f3.f1)] 40 (0, 0)) (by (with_reducible repeat (first | refine blk_drewN ?_ _ | refine blk_drew ?_ | refine blk_alloc ?_ _)); exact BK329.out) hg (Kd.R_ne HO_5.out BK329.out (by decide))); have n2_ := Aside0.mk (hb); have n3_ := Aside0.mk (ho); clear BK324; clear BK329; clear HB; clear HO_5; have BK324 := n0_; have BK329 := n1_; have HB := n2_; have HO332 := n3_; clear n0_ n1_ n2_ n3_; clear ho hb hg hat; have hcz47_0 : w46.cell? ⟨gb329, 0, none⟩ = some (.slice A328_0 ((rd_T40 l0_5 a1).f0).length c328_0) := (blk_cell BK329.out 0).trans rfl; have hcz47_1 : w46.cell? ⟨gb329, 1, none⟩ = some (.int .i64 ((rd_T40 l0_5 a1).f1)) := (blk_cell BK329.out 1).trans rfl; have hcz47_2 : w46.cell? ⟨gb329, 2, none⟩ = some (.int .i64 ((rd_T40 l0_5 a1).f2)) := (blk_cell BK329.out 2).trans rfl; have hcz47_3 : w46.cell? ⟨gb329, 3, none⟩ = some (.int .i64 ((rd_T40 l0_5 a1).f3.f0)) := (blk_cell BK329.out 3).trans rfl; have hcz47_4 : w46.cell? ⟨gb329, 4, none⟩ = some (.int .i64 ((rd_T40 l0_5 a1).f3.f1)) := (blk_cell BK329.out 4).trans rfl; have hfz47_0 := blk_frozen BK329.out 0; have hfz47_1 := blk_frozen BK329.out 1; have hfz47_2 := blk_frozen BK329.out 2; have hfz47_3 := blk_frozen BK329.out 3; have hfz47_4 := blk_frozen BK329.out 4; have hcz48_0 : w46.cell? ⟨gb324, 0, none⟩ = some (.string a0_0) := (blk_cell BK324.out 0).trans rfl; have hcz48_1 : w46.cell? ⟨gb324, 1, none⟩ = some (.slice A0_1 l0_1.length c0_1) := (blk_cell BK324.out 1).trans rfl; have hcz48_2 : w46.cell? ⟨gb324, 2, none⟩ = some (.string a0_2) := (blk_cell BK324.out 2).trans rfl; have hcz48_3 : w46.cell? ⟨gb324, 3, none⟩ = some (.slice A0_3 l0_3.length c0_3) := (blk_cell BK324.out 3).trans rfl; have hcz48_4 : w46.cell? ⟨gb324, 4, none⟩ = some (.slice A0_4 l0_4.length c0_4) := (blk_cell BK324.out 4).trans rfl; have hcz48_5 : w46.cell? ⟨gb324, 5, none⟩ = some (.slice (some ad328) l0_5.length c0_5) := (blk_cell BK324.out 5).trans rfl; have hfz48_0 := blk_frozen BK324.out 0; have hfz48_1 := blk_frozen BK324.out 1; have hfz48_2 := blk_frozen BK324.out 2; have hfz48_3 := blk_frozen BK324.out 3; have hfz48_4 := blk_frozen BK324.out 4; have hfz48_5 := blk_frozen BK324.out 5) | ((with_reducible refine gate_builtin (b := .append) (xs := #[.tmp 79, .tmp 83]) rfl ?_); (try (refine gate_guard (by rfl) ?_; dsimp only)); at_builtin; refine Kd.R_append (Kd.int .i64) (w0 := w) w.heap.size rfl (.tmp 79) (.tmp 83) 34 3 (.int .i64 0) 8 rfl Try.underlying34 info3 rfl (by decide) (by omega) v331 y330 ((rd_T40 l0_5 a1).f3.f1) [.int .i64 ((rd_T40 l0_5 a1).f3.f1)] (fun _ => True) (fun _ => False) rfl rfl ?aP (fun _ hk => hk.elim) ?aF ?aO ?aB ?aS ?aL ?_; (case aP => exact rfl); (case aB => exact (by repeat (first | (with_reducible first | exact HB.out | apply below_alloc | apply pw_below_drewN | apply below_drew1 | refine below_set ?_ GE324.out | refine below_set ?_ GE329.out) | exact HB.out))); (case aF => exact (fun _ _ => trivial)); (case aO => exact (by (with_reducible repeat (first | apply Kd.R_alloc | apply Kd.R_drewN | apply Kd.R_drew)); exact HO332.out)); (case aS => exact (below_size (by repeat (first | (with_reducible first | exact HB.out | apply below_alloc | apply pw_below_drewN | apply below_drew1 | refine below_set ?_ GE324.out | refine below_set ?_ GE329.out) | exact HB.out)))); (case aL => have := LMc43.out; omega); intro v334 w49 ho hb hg hat; rw [← Ny333.out] at ho; have n0_ := Aside0.mk (blk_grown (g := gb324) (o := .cells #[.string a0_0, .slice A0_1 l0_1.length c0_1, .string a0_2, .slice A0_3 l0_3.length c0_3, .slice A0_4 l0_4.length c0_4, .slice (some ad328) l0_5.length c0_5] 26 (0, 0)) (by (with_reducible repeat (first | refine blk_drewN ?_ _ | refine blk_drew ?_ | refine blk_alloc ?_ _)); exact BK324.out) hg (Kd.R_ne HO332.out BK324.out (by decide))); have n1_ := Aside0.mk (blk_grown (g := gb329) (o := .cells #[.slice A328_0 ((rd_T40 l0_5 a1).f0).length c328_0, .int .i64 ((rd_T40 l0_5 a1).f1), .int .i64 ((rd_T40 l0_5 a1).f2), .int .i64 ((rd_T40 l0_5 a1).f3.f0), .int .i64 ((rd_T40 l0_5 a1).f3.f1)] 40 (0, 0)) (by (with_reducible repeat (first | refine blk_drewN ?_ _ | refine blk_drew ?_ | refine blk_alloc ?_ _)); exact BK329.out) hg (Kd.R_ne HO332.out BK329.out (by decide))); have n2_ := Aside0.mk (hb); have n3_ := Aside0.mk (ho); clear BK324; clear BK329; clear HB; clear HO332; have BK324 := n0_; have BK329 := n1_; have HB := n2_; have HO335 := n3_; clear n0_ n1_ n2_ n3_; clear ho hb hg hat))
               go_ret
               exact ⟨_, by first | rfl | (simp [errW_none, errW_some] <;> rfl) | (simp [*, errW_none, errW_some] <;> rfl), by (with_reducible repeat (first | apply Kd.R_alloc | apply Kd.R_drewN | apply Kd.R_drew)); exact HO335.out, by repeat (first | (with_reducible first | exact HB.out | apply below_alloc | apply pw_below_drewN | apply below_drew1 | refine below_set ?_ GE324.out | refine below_set ?_ GE329.out) | exact HB.out)⟩
              ·rw [if_neg c43] at H
               exact absurd H (by simp)
             ·rw [if_neg c42] at H
              have c42b0 : decide (((rd_T40 l0_5 a1).f3.f1) < (l0_5.length : Int)) = false := decide_eq_false c42
              clear c42
              obtain rfl := Option.some.inj H
              have hnb50 := NB329_324.out
              have hnc50 := NB324_329.out
              have hcz51_0 : wc.cell? ⟨gb329, 0, none⟩ = some (.slice A328_0 ((rd_T40 l0_5 a1).f0).length c328_0) := (blk_cell BK329.out 0).trans rfl
              have hcz51_1 : wc.cell? ⟨gb329, 1, none⟩ = some (.int .i64 ((rd_T40 l0_5 a1).f1)) := (blk_cell BK329.out 1).trans rfl
              have hcz51_2 : wc.cell? ⟨gb329, 2, none⟩ = some (.int .i64 ((rd_T40 l0_5 a1).f2)) := (blk_cell BK329.out 2).trans rfl
              have hcz51_3 : wc.cell? ⟨gb329, 3, none⟩ = some (.int .i64 ((rd_T40 l0_5 a1).f3.f0)) := (blk_cell BK329.out 3).trans rfl
              have hcz51_4 : wc.cell? ⟨gb329, 4, none⟩ = some (.int .i64 ((rd_T40 l0_5 a1).f3.f1)) := (blk_cell BK329.out 4).trans rfl
              have hfz51_0 := blk_frozen BK329.out 0
              have hfz51_1 := blk_frozen BK329.out 1
              have hfz51_2 := blk_frozen BK329.out 2
              have hfz51_3 := blk_frozen BK329.out 3
              have hfz51_4 := blk_frozen BK329.out 4
              go_wp2_with (first | ((with_reducible refine gate_builtin (b := .append) (xs := #[.tmp 46, .tmp 50]) rfl ?_); (try (refine gate_guard (by rfl) ?_; dsimp only)); at_builtin; refine Kd.R_append (Kd.int .i64) (w0 := w) w.heap.size rfl (.tmp 46) (.tmp 50) 34 3 (.int .i64 0) 8 rfl Try.underlying34 info3 rfl (by decide) (by omega) v326 y325 ((rd_T40 l0_5 a1).f3.f0) [.int .i64 ((rd_T40 l0_5 a1).f3.f0)] (fun _ => True) (fun _ => False) rfl rfl ?aP (fun _ hk => hk.elim) ?aF ?aO ?aB ?aS ?aL ?_; (case aP => exact rfl); (case aB => exact (by repeat (first | (with_reducible first | exact HB.out | apply below_alloc | apply pw_below_drewN | apply below_drew1 | refine below_set ?_ GE324.out | refine below_set ?_ GE329.out) | exact HB.out))); (case aF => exact (fun _ _ => trivial)); (case aO => exact (by (with_reducible repeat (first | apply Kd.R_alloc | apply Kd.R_drewN | apply Kd.R_drew)); exact HO_5.out)); (case aS => exact (below_size (by repeat (first | (with_reducible first | exact HB.out | apply below_alloc | apply pw_below_drewN | apply below_drew1 | refine below_set ?_ GE324.out | refine below_set ?_ GE329.out) | exact HB.out)))); (case aL => have := LMc34.out; omega); intro v331 w52 ho hb hg hat; rw [← Ny330.out] at ho; have n0_ := Aside0.mk (blk_grown (g := gb324) (o := .cells #[.string a0_0, .slice A0_1 l0_1.length c0_1, .string a0_2, .slice A0_3 l0_3.length c0_3, .slice A0_4 l0_4.length c0_4, .slice (some ad328) l0_5.length c0_5] 26 (0, 0)) (by (with_reducible repeat (first | refine blk_drewN ?_ _ | refine blk_drew ?_ | refine blk_alloc ?_ _)); exact BK324.out) hg (Kd.R_ne HO_5.out BK324.out (by decide))); have n1_ := Aside0.mk (blk_grown (g := gb329) (o := .cells #[.slice A328_0 ((rd_T40 l0_5 a1).f0).length c328_0, .int .i64 ((rd_T40 l0_5 a1).f1), .int .i64 ((rd_T40 l0_5 a1).f2), .int .i64 ((rd_T40 l0_5 a1).f3.f0), .int .i64 ((rd_T40 l0_5 a1).f3.f1)] 40 (0, 0)) (by (with_reducible repeat (first | refine blk_drewN ?_ _ | refine blk_drew ?_ | refine blk_alloc ?_ _)); exact BK329.out) hg (Kd.R_ne HO_5.out BK329.out (by decide))); have n2_ := Aside0.mk (hb); have n3_ := Aside0.mk (ho); clear BK324; clear BK329; clear HB; clear HO_5; have BK324 := n0_; have BK329 := n1_; have HB := n2_; have HO332 := n3_; clear n0_ n1_ n2_ n3_; clear ho hb hg hat; have hcz53_0 : w52.cell? ⟨gb329, 0, none⟩ = some (.slice A328_0 ((rd_T40 l0_5 a1).f0).length c328_0) := (blk_cell BK329.out 0).trans rfl; have hcz53_1 : w52.cell? ⟨gb329, 1, none⟩ = some (.int .i64 ((rd_T40 l0_5 a1).f1)) := (blk_cell BK329.out 1).trans rfl; have hcz53_2 : w52.cell? ⟨gb329, 2, none⟩ = some (.int .i64 ((rd_T40 l0_5 a1).f2)) := (blk_cell BK329.out 2).trans rfl; have hcz53_3 : w52.cell? ⟨gb329, 3, none⟩ = some (.int .i64 ((rd_T40 l0_5 a1).f3.f0)) := (blk_cell BK329.out 3).trans rfl; have hcz53_4 : w52.cell? ⟨gb329, 4, none⟩ = some (.int .i64 ((rd_T40 l0_5 a1).f3.f1)) := (blk_cell BK329.out 4).trans rfl; have hfz53_0 := blk_frozen BK329.out 0; have hfz53_1 := blk_frozen BK329.out 1; have hfz53_2 := blk_frozen BK329.out 2; have hfz53_3 := blk_frozen BK329.out 3; have hfz53_4 := blk_frozen BK329.out 4; have hcz54_0 : w52.cell? ⟨gb324, 0, none⟩ = some (.string a0_0) := (blk_cell BK324.out 0).trans rfl; have hcz54_1 : w52.cell? ⟨gb324, 1, none⟩ = some (.slice A0_1 l0_1.length c0_1) := (blk_cell BK324.out 1).trans rfl; have hcz54_2 : w52.cell? ⟨gb324, 2, none⟩ = some (.string a0_2) := (blk_cell BK324.out 2).trans rfl; have hcz54_3 : w52.cell? ⟨gb324, 3, none⟩ = some (.slice A0_3 l0_3.length c0_3) := (blk_cell BK324.out 3).trans rfl; have hcz54_4 : w52.cell? ⟨gb324, 4, none⟩ = some (.slice A0_4 l0_4.length c0_4) := (blk_cell BK324.out 4).trans rfl; have hcz54_5 : w52.cell? ⟨gb324, 5, none⟩ = some (.slice (some ad328) l0_5.length c0_5) := (blk_cell BK324.out 5).trans rfl; have hfz54_0 := blk_frozen BK324.out 0; have hfz54_1 := blk_frozen BK324.out 1; have hfz54_2 := blk_frozen BK324.out 2; have hfz54_3 := blk_frozen BK324.out 3; have hfz54_4 := blk_frozen BK324.out 4; have hfz54_5 := blk_frozen BK324.out 5))
              go_ret
              exact ⟨_, by first | rfl | (simp [errW_none, errW_some] <;> rfl) | (simp [*, errW_none, errW_some] <;> rfl), by (with_reducible repeat (first | apply Kd.R_alloc | apply Kd.R_drewN | apply Kd.R_drew)); exact HO332.out, by repeat (first | (with_reducible first | exact HB.out | apply below_alloc | apply pw_below_drewN | apply below_drew1 | refine below_set ?_ GE324.out | refine below_set ?_ GE329.out) | exact HB.out)⟩
            ·rw [if_neg c41] at H
             have c41b0 : decide (0 ≤ ((rd_T40 l0_5 a1).f3.f1)) = false := decide_eq_false c41
             clear c41
             obtain rfl := Option.some.inj H
             have hnb55 := NB329_324.out
             have hnc55 := NB324_329.out
             have hcz56_0 : wc.cell? ⟨gb329, 0, none⟩ = some (.slice A328_0 ((rd_T40 l0_5 a1).f0).length c328_0) := (blk_cell BK329.out 0).trans rfl
             have hcz56_1 : wc.cell? ⟨gb329, 1, none⟩ = some (.int .i64 ((rd_T40 l0_5 a1).f1)) := (blk_cell BK329.out 1).trans rfl
             have hcz56_2 : wc.cell? ⟨gb329, 2, none⟩ = some (.int .i64 ((rd_T40 l0_5 a1).f2)) := (blk_cell BK329.out 2).trans rfl
             have hcz56_3 : wc.cell? ⟨gb329, 3, none⟩ = some (.int .i64 ((rd_T40 l0_5 a1).f3.f0)) := (blk_cell BK329.out 3).trans rfl
             have hcz56_4 : wc.cell? ⟨gb329, 4, none⟩ = some (.int .i64 ((rd_T40 l0_5 a1).f3.f1)) := (blk_cell BK329.out 4).trans rfl
             have hfz56_0 := blk_frozen BK329.out 0
             have hfz56_1 := blk_frozen BK329.out 1
             have hfz56_2 := blk_frozen BK329.out 2
             have hfz56_3 := blk_frozen BK329.out 3
             have hfz56_4 := blk_frozen BK329.out 4
             go_wp2_with (first | ((with_reducible refine gate_builtin (b := .append) (xs := #[.tmp 46, .tmp 50]) rfl ?_); (try (refine gate_guard (by rfl) ?_; dsimp only)); at_builtin; refine Kd.R_append (Kd.int .i64) (w0 := w) w.heap.size rfl (.tmp 46) (.tmp 50) 34 3 (.int .i64 0) 8 rfl Try.underlying34 info3 rfl (by decide) (by omega) v326 y325 ((rd_T40 l0_5 a1).f3.f0) [.int .i64 ((rd_T40 l0_5 a1).f3.f0)] (fun _ => True) (fun _ => False) rfl rfl ?aP (fun _ hk => hk.elim) ?aF ?aO ?aB ?aS ?aL ?_; (case aP => exact rfl); (case aB => exact (by repeat (first | (with_reducible first | exact HB.out | apply below_alloc | apply pw_below_drewN | apply below_drew1 | refine below_set ?_ GE324.out | refine below_set ?_ GE329.out) | exact HB.out))); (case aF => exact (fun _ _ => trivial)); (case aO => exact (by (with_reducible repeat (first | apply Kd.R_alloc | apply Kd.R_drewN | apply Kd.R_drew)); exact HO_5.out)); (case aS => exact (below_size (by repeat (first | (with_reducible first | exact HB.out | apply below_alloc | apply pw_below_drewN | apply below_drew1 | refine below_set ?_ GE324.out | refine below_set ?_ GE329.out) | exact HB.out)))); (case aL => have := LMc34.out; omega); intro v331 w57 ho hb hg hat; rw [← Ny330.out] at ho; have n0_ := Aside0.mk (blk_grown (g := gb324) (o := .cells #[.string a0_0, .slice A0_1 l0_1.length c0_1, .string a0_2, .slice A0_3 l0_3.length c0_3, .slice A0_4 l0_4.length c0_4, .slice (some ad328) l0_5.length c0_5] 26 (0, 0)) (by (with_reducible repeat (first | refine blk_drewN ?_ _ | refine blk_drew ?_ | refine blk_alloc ?_ _)); exact BK324.out) hg (Kd.R_ne HO_5.out BK324.out (by decide))); have n1_ := Aside0.mk (blk_grown (g := gb329) (o := .cells #[.slice A328_0 ((rd_T40 l0_5 a1).f0).length c328_0, .int .i64 ((rd_T40 l0_5 a1).f1), .int .i64 ((rd_T40 l0_5 a1).f2), .int .i64 ((rd_T40 l0_5 a1).f3.f0), .int .i64 ((rd_T40 l0_5 a1).f3.f1)] 40 (0, 0)) (by (with_reducible repeat (first | refine blk_drewN ?_ _ | refine blk_drew ?_ | refine blk_alloc ?_ _)); exact BK329.out) hg (Kd.R_ne HO_5.out BK329.out (by decide))); have n2_ := Aside0.mk (hb); have n3_ := Aside0.mk (ho); clear BK324; clear BK329; clear HB; clear HO_5; have BK324 := n0_; have BK329 := n1_; have HB := n2_; have HO332 := n3_; clear n0_ n1_ n2_ n3_; clear ho hb hg hat; have hcz58_0 : w57.cell? ⟨gb329, 0, none⟩ = some (.slice A328_0 ((rd_T40 l0_5 a1).f0).length c328_0) := (blk_cell BK329.out 0).trans rfl; have hcz58_1 : w57.cell? ⟨gb329, 1, none⟩ = some (.int .i64 ((rd_T40 l0_5 a1).f1)) := (blk_cell BK329.out 1).trans rfl; have hcz58_2 : w57.cell? ⟨gb329, 2, none⟩ = some (.int .i64 ((rd_T40 l0_5 a1).f2)) := (blk_cell BK329.out 2).trans rfl; have hcz58_3 : w57.cell? ⟨gb329, 3, none⟩ = some (.int .i64 ((rd_T40 l0_5 a1).f3.f0)) := (blk_cell BK329.out 3).trans rfl; have hcz58_4 : w57.cell? ⟨gb329, 4, none⟩ = some (.int .i64 ((rd_T40 l0_5 a1).f3.f1)) := (blk_cell BK329.out 4).trans rfl; have hfz58_0 := blk_frozen BK329.out 0; have hfz58_1 := blk_frozen BK329.out 1; have hfz58_2 := blk_frozen BK329.out 2; have hfz58_3 := blk_frozen BK329.out 3; have hfz58_4 := blk_frozen BK329.out 4))
             go_ret
             exact ⟨_, by first | rfl | (simp [errW_none, errW_some] <;> rfl) | (simp [*, errW_none, errW_some] <;> rfl), by (with_reducible repeat (first | apply Kd.R_alloc | apply Kd.R_drewN | apply Kd.R_drew)); exact HO332.out, by repeat (first | (with_reducible first | exact HB.out | apply below_alloc | apply pw_below_drewN | apply below_drew1 | refine below_set ?_ GE324.out | refine below_set ?_ GE329.out) | exact HB.out)⟩
          ·rw [if_neg c35] at H
           have c35b0 : (((rd_T40 l0_5 a1).f1) == 2) = false := beq_eq_false_iff_ne.mpr c35
           have c35b1 : (((rd_T40 l0_5 a1).f1) != 2) = true := bne_iff_ne.mpr c35
           obtain rfl := Option.some.inj H
           have hnb59 := NB329_324.out
           have hnc59 := NB324_329.out
           have hcz60_0 : wc.cell? ⟨gb329, 0, none⟩ = some (.slice A328_0 ((rd_T40 l0_5 a1).f0).length c328_0) := (blk_cell BK329.out 0).trans rfl
           have hcz60_1 : wc.cell? ⟨gb329, 1, none⟩ = some (.int .i64 ((rd_T40 l0_5 a1).f1)) := (blk_cell BK329.out 1).trans rfl
           have hcz60_2 : wc.cell? ⟨gb329, 2, none⟩ = some (.int .i64 ((rd_T40 l0_5 a1).f2)) := (blk_cell BK329.out 2).trans rfl
           have hcz60_3 : wc.cell? ⟨gb329, 3, none⟩ = some (.int .i64 ((rd_T40 l0_5 a1).f3.f0)) := (blk_cell BK329.out 3).trans rfl
           have hcz60_4 : wc.cell? ⟨gb329, 4, none⟩ = some (.int .i64 ((rd_T40 l0_5 a1).f3.f1)) := (blk_cell BK329.out 4).trans rfl
           have hfz60_0 := blk_frozen BK329.out 0
           have hfz60_1 := blk_frozen BK329.out 1
           have hfz60_2 := blk_frozen BK329.out 2
           have hfz60_3 := blk_frozen BK329.out 3
           have hfz60_4 := blk_frozen BK329.out 4
           go_wp2_with (first | ((with_reducible refine gate_builtin (b := .append) (xs := #[.tmp 46, .tmp 50]) rfl ?_); (try (refine gate_guard (by rfl) ?_; dsimp only)); at_builtin; refine Kd.R_append (Kd.int .i64) (w0 := w) w.heap.size rfl (.tmp 46) (.tmp 50) 34 3 (.int .i64 0) 8 rfl Try.underlying34 info3 rfl (by decide) (by omega) v326 y325 ((rd_T40 l0_5 a1).f3.f0) [.int .i64 ((rd_T40 l0_5 a1).f3.f0)] (fun _ => True) (fun _ => False) rfl rfl ?aP (fun _ hk => hk.elim) ?aF ?aO ?aB ?aS ?aL ?_; (case aP => exact rfl); (case aB => exact (by repeat (first | (with_reducible first | exact HB.out | apply below_alloc | apply pw_below_drewN | apply below_drew1 | refine below_set ?_ GE324.out | refine below_set ?_ GE329.out) | exact HB.out))); (case aF => exact (fun _ _ => trivial)); (case aO => exact (by (with_reducible repeat (first | apply Kd.R_alloc | apply Kd.R_drewN | apply Kd.R_drew)); exact HO_5.out)); (case aS => exact (below_size (by repeat (first | (with_reducible first | exact HB.out | apply below_alloc | apply pw_below_drewN | apply below_drew1 | refine below_set ?_ GE324.out | refine below_set ?_ GE329.out) | exact HB.out)))); (case aL => have := LMc34.out; omega); intro v331 w61 ho hb hg hat; rw [← Ny330.out] at ho; have n0_ := Aside0.mk (blk_grown (g := gb324) (o := .cells #[.string a0_0, .slice A0_1 l0_1.length c0_1, .string a0_2, .slice A0_3 l0_3.length c0_3, .slice A0_4 l0_4.length c0_4, .slice (some ad328) l0_5.length c0_5] 26 (0, 0)) (by (with_reducible repeat (first | refine blk_drewN ?_ _ | refine blk_drew ?_ | refine blk_alloc ?_ _)); exact BK324.out) hg (Kd.R_ne HO_5.out BK324.out (by decide))); have n1_ := Aside0.mk (blk_grown (g := gb329) (o := .cells #[.slice A328_0 ((rd_T40 l0_5 a1).f0).length c328_0, .int .i64 ((rd_T40 l0_5 a1).f1), .int .i64 ((rd_T40 l0_5 a1).f2), .int .i64 ((rd_T40 l0_5 a1).f3.f0), .int .i64 ((rd_T40 l0_5 a1).f3.f1)] 40 (0, 0)) (by (with_reducible repeat (first | refine blk_drewN ?_ _ | refine blk_drew ?_ | refine blk_alloc ?_ _)); exact BK329.out) hg (Kd.R_ne HO_5.out BK329.out (by decide))); have n2_ := Aside0.mk (hb); have n3_ := Aside0.mk (ho); clear BK324; clear BK329; clear HB; clear HO_5; have BK324 := n0_; have BK329 := n1_; have HB := n2_; have HO332 := n3_; clear n0_ n1_ n2_ n3_; clear ho hb hg hat; have hcz62_0 : w61.cell? ⟨gb329, 0, none⟩ = some (.slice A328_0 ((rd_T40 l0_5 a1).f0).length c328_0) := (blk_cell BK329.out 0).trans rfl; have hcz62_1 : w61.cell? ⟨gb329, 1, none⟩ = some (.int .i64 ((rd_T40 l0_5 a1).f1)) := (blk_cell BK329.out 1).trans rfl; have hcz62_2 : w61.cell? ⟨gb329, 2, none⟩ = some (.int .i64 ((rd_T40 l0_5 a1).f2)) := (blk_cell BK329.out 2).trans rfl; have hcz62_3 : w61.cell? ⟨gb329, 3, none⟩ = some (.int .i64 ((rd_T40 l0_5 a1).f3.f0)) := (blk_cell BK329.out 3).trans rfl; have hcz62_4 : w61.cell? ⟨gb329, 4, none⟩ = some (.int .i64 ((rd_T40 l0_5 a1).f3.f1)) := (blk_cell BK329.out 4).trans rfl; have hfz62_0 := blk_frozen BK329.out 0; have hfz62_1 := blk_frozen BK329.out 1; have hfz62_2 := blk_frozen BK329.out 2; have hfz62_3 := blk_frozen BK329.out 3; have hfz62_4 := blk_frozen BK329.out 4))
           go_ret
           exact ⟨_, by first | rfl | (simp [errW_none, errW_some] <;> rfl) | (simp [*, errW_none, errW_some] <;> rfl), by (with_reducible repeat (first | apply Kd.R_alloc | apply Kd.R_drewN | apply Kd.R_drew)); exact HO332.out, by repeat (first | (with_reducible first | exact HB.out | apply below_alloc | apply pw_below_drewN | apply below_drew1 | refine below_set ?_ GE324.out | refine below_set ?_ GE329.out) | exact HB.out)⟩
         ·rw [if_neg c34] at H
          exact absurd H (by simp)
        ·replace c33 := Bool.eq_false_iff.mpr c33
         subst c33
         have H1 : (if ((rd_T40 l0_5 a1).f1) = 2 then (if ((rd_T40 l0_5 a1).f3.f1) = ((rd_T40 l0_5 a1).f3.f0) then (some y325) else (if ((rd_T40 l0_5 a1).f3.f1) ≥ 0 then (if ((rd_T40 l0_5 a1).f3.f1) < (l0_5.length : Int) then (if y325.length < 17592186044416 then (some (y325 ++ [((rd_T40 l0_5 a1).f3.f1)])) else (none)) else (some y325)) else (some y325))) else (some y325)) = some r := by rw [if_neg (show ¬ (false = true) by decide)] at H; exact H
         clear H
         have H := H1
         clear H1
         by_cases c63 : ((rd_T40 l0_5 a1).f1) = 2
         ·rw [if_pos c63] at H
          have c63b0 : (((rd_T40 l0_5 a1).f1) == 2) = true := beq_iff_eq.mpr c63
          have c63b1 : (((rd_T40 l0_5 a1).f1) != 2) = false := bne_eq_false_iff_eq.mpr c63
          clear c63
          by_cases c64 : ((rd_T40 l0_5 a1).f3.f1) = ((rd_T40 l0_5 a1).f3.f0)
          ·rw [if_pos c64] at H
           have c64b0 : (((rd_T40 l0_5 a1).f3.f1) == ((rd_T40 l0_5 a1).f3.f0)) = true := beq_iff_eq.mpr c64
           have c64b1 : (((rd_T40 l0_5 a1).f3.f1) != ((rd_T40 l0_5 a1).f3.f0)) = false := bne_eq_false_iff_eq.mpr c64
           clear c64
           obtain rfl := Option.some.inj H
           have hnb65 := NB329_324.out
           have hnc65 := NB324_329.out
           have hcz66_0 : wc.cell? ⟨gb329, 0, none⟩ = some (.slice A328_0 ((rd_T40 l0_5 a1).f0).length c328_0) := (blk_cell BK329.out 0).trans rfl
           have hcz66_1 : wc.cell? ⟨gb329, 1, none⟩ = some (.int .i64 ((rd_T40 l0_5 a1).f1)) := (blk_cell BK329.out 1).trans rfl
           have hcz66_2 : wc.cell? ⟨gb329, 2, none⟩ = some (.int .i64 ((rd_T40 l0_5 a1).f2)) := (blk_cell BK329.out 2).trans rfl
           have hcz66_3 : wc.cell? ⟨gb329, 3, none⟩ = some (.int .i64 ((rd_T40 l0_5 a1).f3.f0)) := (blk_cell BK329.out 3).trans rfl
           have hcz66_4 : wc.cell? ⟨gb329, 4, none⟩ = some (.int .i64 ((rd_T40 l0_5 a1).f3.f1)) := (blk_cell BK329.out 4).trans rfl
           have hfz66_0 := blk_frozen BK329.out 0
           have hfz66_1 := blk_frozen BK329.out 1
           have hfz66_2 := blk_frozen BK329.out 2
           have hfz66_3 := blk_frozen BK329.out 3
           have hfz66_4 := blk_frozen BK329.out 4
           go_wp2
           go_ret
           exact ⟨_, by first | rfl | (simp [errW_none, errW_some] <;> rfl) | (simp [*, errW_none, errW_some] <;> rfl), by (with_reducible repeat (first | apply Kd.R_alloc | apply Kd.R_drewN | apply Kd.R_drew)); exact HO_5.out, by repeat (first | (with_reducible first | exact HB.out | apply below_alloc | apply pw_below_drewN | apply below_drew1 | refine below_set ?_ GE324.out | refine below_set ?_ GE329.out) | exact HB.out)⟩
          ·rw [if_neg c64] at H
           have c64b0 : (((rd_T40 l0_5 a1).f3.f1) == ((rd_T40 l0_5 a1).f3.f0)) = false := beq_eq_false_iff_ne.mpr c64
           have c64b1 : (((rd_T40 l0_5 a1).f3.f1) != ((rd_T40 l0_5 a1).f3.f0)) = true := bne_iff_ne.mpr c64
           by_cases c67 : ((rd_T40 l0_5 a1).f3.f1) ≥ 0
           ·rw [if_pos c67] at H
            have c67b0 : decide (0 ≤ ((rd_T40 l0_5 a1).f3.f1)) = true := decide_eq_true c67
            clear c67
            by_cases c68 : ((rd_T40 l0_5 a1).f3.f1) < (l0_5.length : Int)
            ·rw [if_pos c68] at H
             have c68b0 : decide (((rd_T40 l0_5 a1).f3.f1) < (l0_5.length : Int)) = true := decide_eq_true c68
             clear c68
             by_cases c69 : y325.length < 17592186044416
             ·rw [if_pos c69] at H
              have LMc69 := Aside0.mk c69
              clear c69
              obtain ⟨y336, hy336⟩ : ∃ y_ : List Int, y_ = (y325 ++ [((rd_T40 l0_5 a1).f3.f1)]) := ⟨_, rfl⟩
              replace H : (some y336) = some r := by first | (rw [hy336]; with_reducible exact H) | (have H2_ := (Option.bind_some _ _).symm.trans H; rw [hy336]; with_reducible exact H2_) | (have H2_ := (Option.bind_some _ _).symm.trans H; with_reducible exact H2_) | with_reducible exact H | (rw [hy336]; exact H) | exact H
              have Ny336 := Aside0.mk hy336
              clear hy336
              obtain rfl := Option.some.inj H
              have hnb70 := NB329_324.out
              have hnc70 := NB324_329.out
              have hcz71_0 : wc.cell? ⟨gb329, 0, none⟩ = some (.slice A328_0 ((rd_T40 l0_5 a1).f0).length c328_0) := (blk_cell BK329.out 0).trans rfl
              have hcz71_1 : wc.cell? ⟨gb329, 1, none⟩ = some (.int .i64 ((rd_T40 l0_5 a1).f1)) := (blk_cell BK329.out 1).trans rfl
              have hcz71_2 : wc.cell? ⟨gb329, 2, none⟩ = some (.int .i64 ((rd_T40 l0_5 a1).f2)) := (blk_cell BK329.out 2).trans rfl
              have hcz71_3 : wc.cell? ⟨gb329, 3, none⟩ = some (.int .i64 ((rd_T40 l0_5 a1).f3.f0)) := (blk_cell BK329.out 3).trans rfl
              have hcz71_4 : wc.cell? ⟨gb329, 4, none⟩ = some (.int .i64 ((rd_T40 l0_5 a1).f3.f1)) := (blk_cell BK329.out 4).trans rfl
              have hfz71_0 := blk_frozen BK329.out 0
              have hfz71_1 := blk_frozen BK329.out 1
              have hfz71_2 := blk_frozen BK329.out 2
              have hfz71_3 := blk_frozen BK329.out 3
              have hfz71_4 := blk_frozen BK329.out 4
              have hcz72_0 : wc.cell? ⟨gb324, 0, none⟩ = some (.string a0_0) := (blk_cell BK324.out 0).trans rfl
              have hcz72_1 : wc.cell? ⟨gb324, 1, none⟩ = some (.slice A0_1 l0_1.length c0_1) := (blk_cell BK324.out 1).trans rfl
              have hcz72_2 : wc.cell? ⟨gb324, 2, none⟩ = some (.string a0_2) := (blk_cell BK324.out 2).trans rfl
              have hcz72_3 : wc.cell? ⟨gb324, 3, none⟩ = some (.slice A0_3 l0_3.length c0_3) := (blk_cell BK324.out 3).trans rfl
              have hcz72_4 : wc.cell? ⟨gb324, 4, none⟩ = some (.slice A0_4 l0_4.length c0_4) := (blk_cell BK324.out 4).trans rfl
              have hcz72_5 : wc.cell? ⟨gb324, 5, none⟩ = some (.slice (some ad328) l0_5.length c0_5) := (blk_cell BK324.out 5).trans rfl
              have hfz72_0 := blk_frozen BK324.out 0
              have hfz72_1 := blk_frozen BK324.out 1
              have hfz72_2 := blk_frozen BK324.out 2
              have hfz72_3 := blk_frozen BK324.out 3
              have hfz72_4 := blk_frozen BK324.out 4
              have hfz72_5 := blk_frozen BK324.out 5
              go_wp2_with (first | ((with_reducible refine gate_builtin (b := .append) (xs := #[.tmp 79, .tmp 83]) rfl ?_); (try (refine gate_guard (by rfl) ?_; dsimp only)); at_builtin; refine Kd.R_append (Kd.int .i64) (w0 := w) w.heap.size rfl (.tmp 79) (.tmp 83) 34 3 (.int .i64 0) 8 rfl Try.underlying34 info3 rfl (by decide) (by omega) v326 y325 ((rd_T40 l0_5 a1).f3.f1) [.int .i64 ((rd_T40 l0_5 a1).f3.f1)] (fun _ => True) (fun _ => False) rfl rfl ?aP (fun _ hk => hk.elim) ?aF ?aO ?aB ?aS ?aL ?_; (case aP => exact rfl); (case aB => exact (by repeat (first | (with_reducible first | exact HB.out | apply below_alloc | apply pw_below_drewN | apply below_drew1 | refine below_set ?_ GE324.out | refine below_set ?_ GE329.out) | exact HB.out))); (case aF => exact (fun _ _ => trivial)); (case aO => exact (by (with_reducible repeat (first | apply Kd.R_alloc | apply Kd.R_drewN | apply Kd.R_drew)); exact HO_5.out)); (case aS => exact (below_size (by repeat (first | (with_reducible first | exact HB.out | apply below_alloc | apply pw_below_drewN | apply below_drew1 | refine below_set ?_ GE324.out | refine below_set ?_ GE329.out) | exact HB.out)))); (case aL => have := LMc69.out; omega); intro v337 w73 ho hb hg hat; rw [← Ny336.out] at ho; have n0_ := Aside0.mk (blk_grown (g := gb324) (o := .cells #[.string a0_0, .slice A0_1 l0_1.length c0_1, .string a0_2, .slice A0_3 l0_3.length c0_3, .slice A0_4 l0_4.length c0_4, .slice (some ad328) l0_5.length c0_5] 26 (0, 0)) (by (with_reducible repeat (first | refine blk_drewN ?_ _ | refine blk_drew ?_ | refine blk_alloc ?_ _)); exact BK324.out) hg (Kd.R_ne HO_5.out BK324.out (by decide))); have n1_ := Aside0.mk (blk_grown (g := gb329) (o := .cells #[.slice A328_0 ((rd_T40 l0_5 a1).f0).length c328_0, .int .i64 ((rd_T40 l0_5 a1).f1), .int .i64 ((rd_T40 l0_5 a1).f2), .int .i64 ((rd_T40 l0_5 a1).f3.f0), .int .i64 ((rd_T40 l0_5 a1).f3.f1)] 40 (0, 0)) (by (with_reducible repeat (first | refine blk_drewN ?_ _ | refine blk_drew ?_ | refine blk_alloc ?_ _)); exact BK329.out) hg (Kd.R_ne HO_5.out BK329.out (by decide))); have n2_ := Aside0.mk (hb); have n3_ := Aside0.mk (ho); clear BK324; clear BK329; clear HB; clear HO_5; have BK324 := n0_; have BK329 := n1_; have HB := n2_; have HO338 := n3_; clear n0_ n1_ n2_ n3_; clear ho hb hg hat))
              go_ret
              exact ⟨_, by first | rfl | (simp [errW_none, errW_some] <;> rfl) | (simp [*, errW_none, errW_some] <;> rfl), by (with_reducible repeat (first | apply Kd.R_alloc | apply Kd.R_drewN | apply Kd.R_drew)); exact HO338.out, by repeat (first | (with_reducible first | exact HB.out | apply below_alloc | apply pw_below_drewN | apply below_drew1 | refine below_set ?_ GE324.out | refine below_set ?_ GE329.out) | exact HB.out)⟩
             ·rw [if_neg c69] at H
              exact absurd H (by simp)
            ·rw [if_neg c68] at H
             have c68b0 : decide (((rd_T40 l0_5 a1).f3.f1) < (l0_5.length : Int)) = false := decide_eq_false c68
             clear c68
             obtain rfl := Option.some.inj H
             have hnb74 := NB329_324.out
             have hnc74 := NB324_329.out
             have hcz75_0 : wc.cell? ⟨gb329, 0, none⟩ = some (.slice A328_0 ((rd_T40 l0_5 a1).f0).length c328_0) := (blk_cell BK329.out 0).trans rfl
             have hcz75_1 : wc.cell? ⟨gb329, 1, none⟩ = some (.int .i64 ((rd_T40 l0_5 a1).f1)) := (blk_cell BK329.out 1).trans rfl
             have hcz75_2 : wc.cell? ⟨gb329, 2, none⟩ = some (.int .i64 ((rd_T40 l0_5 a1).f2)) := (blk_cell BK329.out 2).trans rfl
             have hcz75_3 : wc.cell? ⟨gb329, 3, none⟩ = some (.int .i64 ((rd_T40 l0_5 a1).f3.f0)) := (blk_cell BK329.out 3).trans rfl
             have hcz75_4 : wc.cell? ⟨gb329, 4, none⟩ = some (.int .i64 ((rd_T40 l0_5 a1).f3.f1)) := (blk_cell BK329.out 4).trans rfl
             have hfz75_0 := blk_frozen BK329.out 0
             have hfz75_1 := blk_frozen BK329.out 1
             have hfz75_2 := blk_frozen BK329.out 2
             have hfz75_3 := blk_frozen BK329.out 3
             have hfz75_4 := blk_frozen BK329.out 4
             have hcz76_0 : wc.cell? ⟨gb324, 0, none⟩ = some (.string a0_0) := (blk_cell BK324.out 0).trans rfl
             have hcz76_1 : wc.cell? ⟨gb324, 1, none⟩ = some (.slice A0_1 l0_1.length c0_1) := (blk_cell BK324.out 1).trans rfl
             have hcz76_2 : wc.cell? ⟨gb324, 2, none⟩ = some (.string a0_2) := (blk_cell BK324.out 2).trans rfl
             have hcz76_3 : wc.cell? ⟨gb324, 3, none⟩ = some (.slice A0_3 l0_3.length c0_3) := (blk_cell BK324.out 3).trans rfl
             have hcz76_4 : wc.cell? ⟨gb324, 4, none⟩ = some (.slice A0_4 l0_4.length c0_4) := (blk_cell BK324.out 4).trans rfl
             have hcz76_5 : wc.cell? ⟨gb324, 5, none⟩ = some (.slice (some ad328) l0_5.length c0_5) := (blk_cell BK324.out 5).trans rfl
             have hfz76_0 := blk_frozen BK324.out 0
             have hfz76_1 := blk_frozen BK324.out 1
             have hfz76_2 := blk_frozen BK324.out 2
             have hfz76_3 := blk_frozen BK324.out 3
             have hfz76_4 := blk_frozen BK324.out 4
             have hfz76_5 := blk_frozen BK324.out 5
             go_wp2
             go_ret
             exact ⟨_, by first | rfl | (simp [errW_none, errW_some] <;> rfl) | (simp [*, errW_none, errW_some] <;> rfl), by (with_reducible repeat (first | apply Kd.R_alloc | apply Kd.R_drewN | apply Kd.R_drew)); exact HO_5.out, by repeat (first | (with_reducible first | exact HB.out | apply below_alloc | apply pw_below_drewN | apply below_drew1 | refine below_set ?_ GE324.out | refine below_set ?_ GE329.out) | exact HB.out)⟩
           ·rw [if_neg c67] at H
            have c67b0 : decide (0 ≤ ((rd_T40 l0_5 a1).f3.f1)) = false := decide_eq_false c67
            clear c67
            obtain rfl := Option.some.inj H
            have hnb77 := NB329_324.out
            have hnc77 := NB324_329.out
            have hcz78_0 : wc.cell? ⟨gb329, 0, none⟩ = some (.slice A328_0 ((rd_T40 l0_5 a1).f0).length c328_0) := (blk_cell BK329.out 0).trans rfl
            have hcz78_1 : wc.cell? ⟨gb329, 1, none⟩ = some (.int .i64 ((rd_T40 l0_5 a1).f1)) := (blk_cell BK329.out 1).trans rfl
            have hcz78_2 : wc.cell? ⟨gb329, 2, none⟩ = some (.int .i64 ((rd_T40 l0_5 a1).f2)) := (blk_cell BK329.out 2).trans rfl
            have hcz78_3 : wc.cell? ⟨gb329, 3, none⟩ = some (.int .i64 ((rd_T40 l0_5 a1).f3.f0)) := (blk_cell BK329.out 3).trans rfl
            have hcz78_4 : wc.cell? ⟨gb329, 4, none⟩ = some (.int .i64 ((rd_T40 l0_5 a1).f3.f1)) := (blk_cell BK329.out 4).trans rfl
            have hfz78_0 := blk_frozen BK329.out 0
            have hfz78_1 := blk_frozen BK329.out 1
            have hfz78_2 := blk_frozen BK329.out 2
            have hfz78_3 := blk_frozen BK329.out 3
            have hfz78_4 := blk_frozen BK329.out 4
            go_wp2
            go_ret
            exact ⟨_, by first | rfl | (simp [errW_none, errW_some] <;> rfl) | (simp [*, errW_none, errW_some] <;> rfl), by (with_reducible repeat (first | apply Kd.R_alloc | apply Kd.R_drewN | apply Kd.R_drew)); exact HO_5.out, by repeat (first | (with_reducible first | exact HB.out | apply below_alloc | apply pw_below_drewN | apply below_drew1 | refine below_set ?_ GE324.out | refine below_set ?_ GE329.out) | exact HB.out)⟩
         ·rw [if_neg c63] at H
          have c63b0 : (((rd_T40 l0_5 a1).f1) == 2) = false := beq_eq_false_iff_ne.mpr c63
          have c63b1 : (((rd_T40 l0_5 a1).f1) != 2) = true := bne_iff_ne.mpr c63
          obtain rfl := Option.some.inj H
          have hnb79 := NB329_324.out
          have hnc79 := NB324_329.out
          have hcz80_0 : wc.cell? ⟨gb329, 0, none⟩ = some (.slice A328_0 ((rd_T40 l0_5 a1).f0).length c328_0) := (blk_cell BK329.out 0).trans rfl
          have hcz80_1 : wc.cell? ⟨gb329, 1, none⟩ = some (.int .i64 ((rd_T40 l0_5 a1).f1)) := (blk_cell BK329.out 1).trans rfl
          have hcz80_2 : wc.cell? ⟨gb329, 2, none⟩ = some (.int .i64 ((rd_T40 l0_5 a1).f2)) := (blk_cell BK329.out 2).trans rfl
          have hcz80_3 : wc.cell? ⟨gb329, 3, none⟩ = some (.int .i64 ((rd_T40 l0_5 a1).f3.f0)) := (blk_cell BK329.out 3).trans rfl
          have hcz80_4 : wc.cell? ⟨gb329, 4, none⟩ = some (.int .i64 ((rd_T40 l0_5 a1).f3.f1)) := (blk_cell BK329.out 4).trans rfl
          have hfz80_0 := blk_frozen BK329.out 0
          have hfz80_1 := blk_frozen BK329.out 1
          have hfz80_2 := blk_frozen BK329.out 2
          have hfz80_3 := blk_frozen BK329.out 3
          have hfz80_4 := blk_frozen BK329.out 4
          go_wp2
          go_ret
          exact ⟨_, by first | rfl | (simp [errW_none, errW_some] <;> rfl) | (simp [*, errW_none, errW_some] <;> rfl), by (with_reducible repeat (first | apply Kd.R_alloc | apply Kd.R_drewN | apply Kd.R_drew)); exact HO_5.out, by repeat (first | (with_reducible first | exact HB.out | apply below_alloc | apply pw_below_drewN | apply below_drew1 | refine below_set ?_ GE324.out | refine below_set ?_ GE329.out) | exact HB.out)⟩
     ·rw [if_neg c11] at H
      exact absurd H (by simp)
    ·rw [if_neg c10] at H
     exact absurd H (by simp)

end Go.Proofs.Ytclhjalgflebfaa.Q

namespace Go.Proofs.Ytclhjalgflebfaa.Q
open Go.RowKit Go.Proofs.YtclhjalgflebfaaW.PrintWords Go.Proofs.YtclhjalgflebfaaW.PrintLast Go.Proofs.YtclhjalgflebfaaW.PrintMore
attribute [local go_sem] max2_int min2_int max_two min_two max_three min_three max_four min_four   -- for this text's walks alone
set_option linter.unusedVariables false
set_option linter.unusedSimpArgs false

/-! ### truantref09_Ahead: function 24 -/
mutual
def truantref09_Ahead.l0 : Nat → Int → List Int → Int → ByteArray → List ByteArray → ByteArray → List ByteArray → List (S58) → List (S40) → Option (List Int)
 | 0, _, _, _, _, _, _, _, _, _ => none
 | k + 1, x1, x5, x6, x384000, x384001, x384002, x384003, x384004, x384005 => if x6 < (x384005.length : Int) then ((truantref09_Next.f k x384000 x384001 x384002 x384003 x384004 x384005 x6).bind fun t387 => (truantref09_Ahead.l1 k x1 x5 x6 t387 0 x384000 x384001 x384002 x384003 x384004 x384005)) else (some x5)
def truantref09_Ahead.l1 : Nat → Int → List Int → Int → List Int → Int → ByteArray → List ByteArray → ByteArray → List ByteArray → List (S58) → List (S40) → Option (List Int)
 | 0, _, _, _, _, _, _, _, _, _, _, _ => none
 | k + 1, x1, x5, x6, x7, x8, x384000, x384001, x384002, x384003, x384004, x384005 => if x8 < (x7.length : Int) then (if 0 ≤ x8 then (if (rd x7 x8) = x1 then (if x5.length < 17592186044416 then (truantref09_Ahead.l1 k x1 (x5 ++ [x6]) x6 x7 (wrap64 (x8 + 1)) x384000 x384001 x384002 x384003 x384004 x384005) else (none)) else (truantref09_Ahead.l1 k x1 x5 x6 x7 (wrap64 (x8 + 1)) x384000 x384001 x384002 x384003 x384004 x384005)) else (none)) else (truantref09_Ahead.l0 k x1 x5 (wrap64 (x6 + 1)) x384000 x384001 x384002 x384003 x384004 x384005)
end
def truantref09_Ahead.f (k : Nat) (a0_0 : ByteArray) (l0_1 : List ByteArray) (a0_2 : ByteArray) (l0_3 : List ByteArray) (l0_4 : List (S58)) (l0_5 : List (S40)) (a1 : Int) : Option (List Int) := truantref09_Ahead.l0 k a1 (([] : List Int)) 0 a0_0 l0_1 a0_2 l0_3 l0_4 l0_5
theorem truantref09_Ahead.mono_l : ∀ k, (∀ y0 y1 y2 y3 y4 y5 y6 y7 y8, LeO (truantref09_Ahead.l0 k y0 y1 y2 y3 y4 y5 y6 y7 y8) (truantref09_Ahead.l0 (k + 1) y0 y1 y2 y3 y4 y5 y6 y7 y8)) ∧ (∀ y0 y1 y2 y3 y4 y5 y6 y7 y8 y9 y10, LeO (truantref09_Ahead.l1 k y0 y1 y2 y3 y4 y5 y6 y7 y8 y9 y10) (truantref09_Ahead.l1 (k + 1) y0 y1 y2 y3 y4 y5 y6 y7 y8 y9 y10))
 | 0 => ⟨fun _ _ _ _ _ _ _ _ _ r h => by simp [truantref09_Ahead.l0] at h, fun _ _ _ _ _ _ _ _ _ _ _ r h => by simp [truantref09_Ahead.l1] at h⟩
 | k + 1 => by
  obtain ⟨ih0, ih1⟩ := truantref09_Ahead.mono_l k
  refine ⟨?_, ?_⟩
  ·intro y0 y1 y2 y3 y4 y5 y6 y7 y8
   unfold truantref09_Ahead.l0
   repeat' first
   | (with_reducible exact ih0 _ _ _ _ _ _ _ _ _)
   | (with_reducible exact ih1 _ _ _ _ _ _ _ _ _ _ _)
   | (with_reducible exact truantref09_Next.mono _ _ _ _ _ _ _ _)
   | (with_reducible exact LeO.refl _)
   | (with_reducible exact LeO.none _)
   | (with_reducible refine LeO.ite ?_ ?_)
   | (with_reducible refine LeO.bind ?_ (fun _ => ?_))
   | exact ih0 _ _ _ _ _ _ _ _ _
   | exact ih1 _ _ _ _ _ _ _ _ _ _ _
   | exact truantref09_Next.mono _ _ _ _ _ _ _ _
   | exact LeO.none _
   | refine LeO.ite ?_ ?_
   | refine LeO.bind ?_ (fun _ => ?_)
  ·intro y0 y1 y2 y3 y4 y5 y6 y7 y8 y9 y10
   unfold truantref09_Ahead.l1
   repeat' first
   | (with_reducible exact ih0 _ _ _ _ _ _ _ _ _)
   | (with_reducible exact ih1 _ _ _ _ _ _ _ _ _ _ _)
   | (with_reducible exact truantref09_Next.mono _ _ _ _ _ _ _ _)
   | (with_reducible exact LeO.refl _)
   | (with_reducible exact LeO.none _)
   | (with_reducible refine LeO.ite ?_ ?_)
   | (with_reducible refine LeO.bind ?_ (fun _ => ?_))
   | exact ih0 _ _ _ _ _ _ _ _ _
   | exact ih1 _ _ _ _ _ _ _ _ _ _ _
   | exact truantref09_Next.mono _ _ _ _ _ _ _ _
   | exact LeO.none _
   | refine LeO.ite ?_ ?_
   | refine LeO.bind ?_ (fun _ => ?_)
theorem truantref09_Ahead.mono : ∀ a0 a1 a2 a3 a4 a5 a6 k, LeO (truantref09_Ahead.f k a0 a1 a2 a3 a4 a5 a6) (truantref09_Ahead.f (k + 1) a0 a1 a2 a3 a4 a5 a6) := by
 intro a0 a1 a2 a3 a4 a5 a6 k
 obtain ⟨ih0, ih1⟩ := truantref09_Ahead.mono_l k
 unfold truantref09_Ahead.f
 repeat' first
   | (with_reducible exact ih0 _ _ _ _ _ _ _ _ _)
   | (with_reducible exact ih1 _ _ _ _ _ _ _ _ _ _ _)
   | (with_reducible exact truantref09_Next.mono _ _ _ _ _ _ _ _)
   | (with_reducible exact LeO.refl _)
   | (with_reducible exact LeO.none _)
   | (with_reducible refine LeO.ite ?_ ?_)
   | (with_reducible refine LeO.bind ?_ (fun _ => ?_))
   | exact ih0 _ _ _ _ _ _ _ _ _
   | exact ih1 _ _ _ _ _ _ _ _ _ _ _
   | exact truantref09_Next.mono _ _ _ _ _ _ _ _
   | exact LeO.none _
   | refine LeO.ite ?_ ?_
   | refine LeO.bind ?_ (fun _ => ?_)
set_option maxHeartbeats 8000000 in
set_option maxRecDepth 100000 in
theorem truantref09_Ahead.calls (k : Nat) (a0_0 : ByteArray) (A0_1 : Option Addr) (c0_1 : Nat) (l0_1 : List ByteArray) (a0_2 : ByteArray) (A0_3 : Option Addr) (c0_3 : Nat) (l0_3 : List ByteArray) (A0_4 : Option Addr) (c0_4 : Nat) (l0_4 : List (S58)) (A0_5 : Option Addr) (c0_5 : Nat) (l0_5 : List (S40)) (a1 : Int) (r : List Int) (w : World) (hr0_1 : Kd.C Kd.string w A0_1 l0_1.length l0_1) (hc0_1 : l0_1.length ≤ c0_1) (hr0_3 : Kd.C Kd.string w A0_3 l0_3.length l0_3) (hc0_3 : l0_3.length ≤ c0_3) (hr0_4 : Kd.C k58 w A0_4 l0_4.length l0_4) (hc0_4 : l0_4.length ≤ c0_4) (hr0_5 : Kd.C k40 w A0_5 l0_5.length l0_5) (hc0_5 : l0_5.length ≤ c0_5) (h : truantref09_Ahead.f k a0_0 l0_1 a0_2 l0_3 l0_4 l0_5 a1 = some r) :
  Calls Try.prog 24 #[.agg #[.string a0_0, .slice A0_1 l0_1.length c0_1, .string a0_2, .slice A0_3 l0_3.length c0_3, .slice A0_4 l0_4.length c0_4, .slice A0_5 l0_5.length c0_5], .int .i64 a1] w fun e w' => ∃ v0_ : Value, e = .returned (v0_) ∧ Kd.R (Kd.int .i64) 3 w' w.heap.size (fun _ => True) v0_ r ∧ Below w.heap.size w w' := by
 have hu26 := Try.underlying26
 have HR0_1 := Aside0.mk hr0_1
 have HC0_1 := Aside0.mk hc0_1
 clear hr0_1 hc0_1
 have HR0_3 := Aside0.mk hr0_3
 have HC0_3 := Aside0.mk hc0_3
 clear hr0_3 hc0_3
 have HR0_4 := Aside0.mk hr0_4
 have HC0_4 := Aside0.mk hc0_4
 clear hr0_4 hc0_4
 have HR0_5 := Aside0.mk hr0_5
 have HC0_5 := Aside0.mk hc0_5
 clear hr0_5 hc0_5
 have HB := Aside0.mk (Below.refl w.heap.size w)
 have H : (truantref09_Ahead.l0 k a1 (([] : List Int)) 0 a0_0 l0_1 a0_2 l0_3 l0_4 l0_5) = some r := h
 clear h
 obtain ⟨y384, hy384⟩ : ∃ y_ : List Int, y_ = (([] : List Int)) := ⟨_, rfl⟩
 replace H : (truantref09_Ahead.l0 k a1 y384 0 a0_0 l0_1 a0_2 l0_3 l0_4 l0_5) = some r := by first | (rw [hy384]; with_reducible exact H) | (have H2_ := (Option.bind_some _ _).symm.trans H; rw [hy384]; with_reducible exact H2_) | (have H2_ := (Option.bind_some _ _).symm.trans H; with_reducible exact H2_) | with_reducible exact H | (rw [hy384]; exact H) | exact H
 have Ny384 := Aside0.mk hy384
 clear hy384
 have H' := Aside0.mk H
 clear H
 go_enter Try.func24, Try.ntmps24
 go_wp2_with (first | ((with_reducible refine gate_dst (N := 2) rfl ?_); refine box_event ?hg (N := 2) ?hd (cs := #[.string a0_0, .slice A0_1 l0_1.length c0_1, .string a0_2, .slice A0_3 l0_3.length c0_3, .slice A0_4 l0_4.length c0_4, .slice A0_5 l0_5.length c0_5]) (t := 26) ?hr ?_; (case hd => rfl); (case hg => rfl); (case hr => first | (go_simp; done) | (go_simp; rfl)); intro gb383 hg w3 hbox hb; have n0_ := Aside0.mk (below_step (by repeat (first | (with_reducible first | exact HB.out | apply below_alloc | apply pw_below_drewN | apply below_drew1) | exact HB.out)) hb); have n1_ := Aside0.mk (hbox); have n2_ := Aside0.mk ((by rw [hg]; exact (below_size (by repeat (first | (with_reducible first | exact HB.out | apply below_alloc | apply pw_below_drewN | apply below_drew1) | exact HB.out))) : w.heap.size ≤ gb383)); have n3_ := Aside0.mk ((by rw [hg]; exact (below_size (by repeat (first | (with_reducible first | exact HB.out | apply below_alloc | apply pw_below_drewN | apply below_drew1) | exact HB.out))) : w.heap.size ≤ gb383)); clear HB; have HB := n0_; have BK383 := n1_; have GW383 := n2_; have GE383 := n3_; clear n0_ n1_ n2_ n3_; clear hb hbox hg) | ((with_reducible refine gate_dst (N := 9) rfl ?_); refine Kd.R_lit (Kd.int .i64) _ 3 ?hg (N := 9) ?hd (xs := ([] : List Int)) (inner := []) (ok := fun _ => True) (okp := fun _ => True) ?hr ?hp (fun _ hk => hk) trivial (Below.refl _ _) (Nat.le_refl _) (by simp) ?_; (case hd => rfl); (case hg => rfl); (case hr => first | (go_simp; done) | (go_simp; rfl)); (case hp => exact (Reps.none _ _)); intro v385 w4 ho5 hb hg_ hnew_; clear hg_ hnew_; (first | rw [← Ny384.out] at ho5 | (simp only [Int.reduceToNat] at ho5; rw [← Ny384.out] at ho5)); have n0_ := Aside0.mk (Kd.R_lower ho5 (below_size (by repeat (first | (with_reducible first | exact HB.out | apply below_alloc | apply pw_below_drewN | apply below_drew1 | refine below_set ?_ GE383.out) | exact HB.out)))); have n1_ := Aside0.mk (blk_below (g := gb383) (o := .cells #[.string a0_0, .slice A0_1 l0_1.length c0_1, .string a0_2, .slice A0_3 l0_3.length c0_3, .slice A0_4 l0_4.length c0_4, .slice A0_5 l0_5.length c0_5] 26 (0, 0)) (by (with_reducible repeat (first | refine blk_drewN ?_ _ | refine blk_drew ?_ | refine blk_alloc ?_ _)); exact BK383.out) hb); have n2_ := Aside0.mk (below_step (by repeat (first | (with_reducible first | exact HB.out | apply below_alloc | apply pw_below_drewN | apply below_drew1 | refine below_set ?_ GE383.out) | exact HB.out)) hb); clear BK383; clear HB; have HO386 := n0_; have BK383 := n1_; have HB := n2_; clear n0_ n1_ n2_; clear hb ho5))
 go_loopg [5, 6] k (fun kq v5 v6 w' => ∃ (x5_1 : List Int) (x6_1 : Int), v6 = .int .i64 x6_1 ∧ Aside0 (truantref09_Ahead.l0 kq a1 x5_1 x6_1 a0_0 l0_1 a0_2 l0_3 l0_4 l0_5 = some r) ∧ Aside0 (kq ≤ k) ∧ Aside0 (Kd.R (Kd.int .i64) 3 w' w.heap.size (fun _ => True) v5 x5_1) ∧ Aside0 (w'.heap[gb383]? = some (.cells #[.string a0_0, (.slice A0_1 l0_1.length c0_1), .string a0_2, (.slice A0_3 l0_3.length c0_3), (.slice A0_4 l0_4.length c0_4), (.slice A0_5 l0_5.length c0_5)] 26 (0, 0))) ∧ Aside0 (Below w.heap.size w w'))
 case atStart => exact ⟨(y384), (0), (by first | rfl | (simp; done) | (simp [*]; done)), H', ⟨Nat.le_refl _⟩, ⟨by (with_reducible repeat (first | apply Kd.R_alloc | apply Kd.R_drewN | apply Kd.R_drew)); exact HO386.out⟩, ⟨by (with_reducible repeat (first | refine blk_drewN ?_ _ | refine blk_drew ?_ | refine blk_alloc ?_ _)); exact BK383.out⟩, ⟨by repeat (first | (with_reducible first | exact HB.out | apply below_alloc | apply pw_below_drewN | apply below_drew1 | refine below_set ?_ GE383.out) | exact HB.out)⟩⟩
 case round =>
  clear H'
  try clear c2
  try clear p2
  obtain ⟨x5_1, x6_1, rfl, HA, HK1, HO_5, BK383, HB⟩ := hrel
  cases gk with
  | zero => exact absurd HA.out (by simp [truantref09_Ahead.l0])
  | succ k1 =>
   have H := HA.out
   clear HA
   simp only [truantref09_Ahead.l0] at H
   by_cases c6 : x6_1 < (l0_5.length : Int)
   ·rw [if_pos c6] at H
    have c6b0 : decide (x6_1 < (l0_5.length : Int)) = true := decide_eq_true c6
    clear c6
    replace H := Option.bind_eq_some_iff.mp H
    obtain ⟨t387, A70, H⟩ := H
    replace H : (truantref09_Ahead.l1 k1 a1 x5_1 x6_1 t387 0 a0_0 l0_1 a0_2 l0_3 l0_4 l0_5) = some r := H
    have A7 := Aside0.mk A70
    clear A70
    have H' := Aside0.mk H
    clear H
    have hcz8_0 : wr.cell? ⟨gb383, 0, none⟩ = some (.string a0_0) := (blk_cell BK383.out 0).trans rfl
    have hcz8_1 : wr.cell? ⟨gb383, 1, none⟩ = some (.slice A0_1 l0_1.length c0_1) := (blk_cell BK383.out 1).trans rfl
    have hcz8_2 : wr.cell? ⟨gb383, 2, none⟩ = some (.string a0_2) := (blk_cell BK383.out 2).trans rfl
    have hcz8_3 : wr.cell? ⟨gb383, 3, none⟩ = some (.slice A0_3 l0_3.length c0_3) := (blk_cell BK383.out 3).trans rfl
    have hcz8_4 : wr.cell? ⟨gb383, 4, none⟩ = some (.slice A0_4 l0_4.length c0_4) := (blk_cell BK383.out 4).trans rfl
    have hcz8_5 : wr.cell? ⟨gb383, 5, none⟩ = some (.slice A0_5 l0_5.length c0_5) := (blk_cell BK383.out 5).trans rfl
    have hfz8_0 := blk_frozen BK383.out 0
    have hfz8_1 := blk_frozen BK383.out 1
    have hfz8_2 := blk_frozen BK383.out 2
    have hfz8_3 := blk_frozen BK383.out 3
    have hfz8_4 := blk_frozen BK383.out 4
    have hfz8_5 := blk_frozen BK383.out 5
    go_wp2_with (first | ((with_reducible refine gate_callee (f := 21) rfl ?_); refine goesL_ (some 19) rfl rfl Try.func21 (by kernel_rfl) rfl #[.agg #[.string a0_0, .slice A0_1 l0_1.length c0_1, .string a0_2, .slice A0_3 l0_3.length c0_3, .slice A0_4 l0_4.length c0_4, .slice A0_5 l0_5.length c0_5], .int .i64 x6_1] rfl (by (try simp only [List.map_toArray, List.map_cons, List.map_nil]); first | done | rfl | (simp only [List.length_drop, List.length_take]; rfl)) ?_; (with_reducible refine (truantref09_Next.calls k1 a0_0 _ _ l0_1 a0_2 _ _ l0_3 _ _ l0_4 _ _ l0_5 x6_1 t387 _ ?side1 ?side2 ?side3 ?side4 ?side5 ?side6 ?side7 ?side8 A7.out).mono ?_); (case side1 => repeat (first | exact (Kd.C_below HR0_1.out HB.out) | (with_reducible refine Kd.C_alloc ?_ _) | (with_reducible refine Kd.C_drewN ?_ _) | (with_reducible refine Kd.C_drew ?_))); (case side2 => exact HC0_1.out); (case side3 => repeat (first | exact (Kd.C_below HR0_3.out HB.out) | (with_reducible refine Kd.C_alloc ?_ _) | (with_reducible refine Kd.C_drewN ?_ _) | (with_reducible refine Kd.C_drew ?_))); (case side4 => exact HC0_3.out); (case side5 => repeat (first | exact (Kd.C_below HR0_4.out HB.out) | (with_reducible refine Kd.C_alloc ?_ _) | (with_reducible refine Kd.C_drewN ?_ _) | (with_reducible refine Kd.C_drew ?_))); (case side6 => exact HC0_4.out); (case side7 => repeat (first | exact (Kd.C_below HR0_5.out HB.out) | (with_reducible refine Kd.C_alloc ?_ _) | (with_reducible refine Kd.C_drewN ?_ _) | (with_reducible refine Kd.C_drew ?_))); (case side8 => exact HC0_5.out); rintro e w9 ⟨v388, rfl, ho0, hb⟩; refine ⟨_, rfl, ?_⟩; have n0_ := Aside0.mk (Kd.R_elder' (by (with_reducible repeat (first | apply Kd.R_alloc | apply Kd.R_drewN | apply Kd.R_drew)); exact HO_5.out) (Kd.R_base ho0) hb); have n1_ := Aside0.mk (Kd.R_lower (Kd.R_new' ho0 (Kd.R_lt (by (with_reducible repeat (first | apply Kd.R_alloc | apply Kd.R_drewN | apply Kd.R_drew)); exact HO_5.out))) (below_size (by repeat (first | (with_reducible first | exact HB.out | apply below_alloc | apply pw_below_drewN | apply below_drew1 | refine below_set ?_ GE383.out) | exact HB.out)))); have n2_ := Aside0.mk (blk_below (g := gb383) (o := .cells #[.string a0_0, .slice A0_1 l0_1.length c0_1, .string a0_2, .slice A0_3 l0_3.length c0_3, .slice A0_4 l0_4.length c0_4, .slice A0_5 l0_5.length c0_5] 26 (0, 0)) (by (with_reducible repeat (first | refine blk_drewN ?_ _ | refine blk_drew ?_ | refine blk_alloc ?_ _)); exact BK383.out) hb); have n3_ := Aside0.mk (below_step (by repeat (first | (with_reducible first | exact HB.out | apply below_alloc | apply pw_below_drewN | apply below_drew1 | refine below_set ?_ GE383.out) | exact HB.out)) hb); clear HO_5; clear BK383; clear HB; have HO_5 := n0_; have HO389 := n1_; have BK383 := n2_; have HB := n3_; clear n0_ n1_ n2_ n3_; (try clear hb); (try clear hb2); (try clear hk); (try clear hi); (try clear ho0)))
    go_loopg [5, 8] k1 (fun kq v5 v8 w' => ∃ (x5_2 : List Int) (x8_2 : Int), v8 = .int .i64 x8_2 ∧ Aside0 (truantref09_Ahead.l1 kq a1 x5_2 x6_1 t387 x8_2 a0_0 l0_1 a0_2 l0_3 l0_4 l0_5 = some r) ∧ Aside0 (kq ≤ k1) ∧ Aside0 (Kd.R (Kd.int .i64) 3 w' w.heap.size (fun k_ => some k_ ≠ (v388 : Value).ownBlock) v5 x5_2) ∧ Aside0 (Kd.R (Kd.int .i64) 3 w' w.heap.size (fun k_ => some k_ ≠ (v5 : Value).ownBlock) v388 t387) ∧ Aside0 (w'.heap[gb383]? = some (.cells #[.string a0_0, (.slice A0_1 l0_1.length c0_1), .string a0_2, (.slice A0_3 l0_3.length c0_3), (.slice A0_4 l0_4.length c0_4), (.slice A0_5 l0_5.length c0_5)] 26 (0, 0))) ∧ Aside0 (Below w.heap.size w w'))
    case atStart => exact ⟨(x5_1), (0), (by first | rfl | (simp; done) | (simp [*]; done)), H', ⟨Nat.le_refl _⟩, ⟨by (with_reducible repeat (first | apply Kd.R_alloc | apply Kd.R_drewN | apply Kd.R_drew)); exact Kd.R_mono HO_5.out (fun _ hk => hk.2)⟩, ⟨by (with_reducible repeat (first | apply Kd.R_alloc | apply Kd.R_drewN | apply Kd.R_drew)); exact Kd.R_mono HO389.out (fun _ hk => hk.2)⟩, ⟨by (with_reducible repeat (first | refine blk_drewN ?_ _ | refine blk_drew ?_ | refine blk_alloc ?_ _)); exact BK383.out⟩, ⟨by repeat (first | (with_reducible first | exact HB.out | apply below_alloc | apply pw_below_drewN | apply below_drew1 | refine below_set ?_ GE383.out) | exact HB.out)⟩⟩
    case round =>
     clear H'
     try clear c2
     try clear p2
     try clear c6
     try clear c6b0
     try clear hcz8_0
     try clear hcz8_1
     try clear hcz8_2
     try clear hcz8_3
     try clear hcz8_4
     try clear hcz8_5
     try clear hfz8_0
     try clear hfz8_1
     try clear hfz8_2
     try clear hfz8_3
     try clear hfz8_4
     try clear hfz8_5
     try clear p2
     obtain ⟨x5_2, x8_2, rfl, HA, HK2, HO_5, HO_7, BK383, HB⟩ := hrel
     cases gk with
     | zero => exact absurd HA.out (by simp [truantref09_Ahead.l1])
     | succ k2 =>
      have H := HA.out
      clear HA
      simp only [truantref09_Ahead.l1] at H
      by_cases c10 : x8_2 < (t387.length : Int)
      ·rw [if_pos c10] at H
       have c10b0 : decide (x8_2 < (t387.length : Int)) = true := decide_eq_true c10
       clear c10
       by_cases c11 : 0 ≤ x8_2
       ·rw [if_pos c11] at H
        have c11b0 : decide (0 ≤ x8_2) = true := decide_eq_true c11
        clear c11
        by_cases c12 : (rd t387 x8_2) = a1
        ·rw [if_pos c12] at H
         have c12b0 : ((rd t387 x8_2) == a1) = true := beq_iff_eq.mpr c12
         have c12b1 : ((rd t387 x8_2) != a1) = false := bne_eq_false_iff_eq.mpr c12
         clear c12
         by_cases c13 : x5_2.length < 17592186044416
         ·rw [if_pos c13] at H
          have LMc13 := Aside0.mk c13
          clear c13
          obtain ⟨y391, hy391⟩ : ∃ y_ : List Int, y_ = (x5_2 ++ [x6_1]) := ⟨_, rfl⟩
          replace H : (truantref09_Ahead.l1 k2 a1 y391 x6_1 t387 (wrap64 (x8_2 + 1)) a0_0 l0_1 a0_2 l0_3 l0_4 l0_5) = some r := by first | (rw [hy391]; with_reducible exact H) | (have H2_ := (Option.bind_some _ _).symm.trans H; rw [hy391]; with_reducible exact H2_) | (have H2_ := (Option.bind_some _ _).symm.trans H; with_reducible exact H2_) | with_reducible exact H | (rw [hy391]; exact H) | exact H
          have Ny391 := Aside0.mk hy391
          clear hy391
          have H' := Aside0.mk H
          clear H
          obtain ⟨Ao14, co14, eo14⟩ := Kd.R_slice HO_7.out
          subst eo14
          have p390 : 0 ≤ (x8_2 : Int) := of_decide_eq_true (by first | (with_reducible assumption) | assumption)
          have q390 : x8_2 < (t387.length : Int) := of_decide_eq_true (by first | (with_reducible assumption) | assumption)
          obtain ⟨ad390, e390, hx390_0⟩ := Kd.at_int (Kd.R_reads' HO_7.out).2.2 x8_2 p390 q390
          cases e390
          replace p390 := eq_true p390
          replace q390 := eq_true q390
          go_wp2_with (first | ((with_reducible refine gate_builtin (b := .append) (xs := #[.tmp 32, .tmp 34]) rfl ?_); at_builtin; refine Kd.R_append (Kd.int .i64) (w0 := w) w.heap.size rfl (.tmp 32) (.tmp 34) 34 3 (.int .i64 0) 8 rfl Try.underlying34 info3 rfl (by decide) (by omega) u5 x5_2 x6_1 [.int .i64 x6_1] (fun k_ => some k_ ≠ (.slice (some ad390) t387.length co14 : Value).ownBlock) (fun _ => False) rfl rfl ?aP (fun _ hk => hk.elim) ?aF ?aO ?aB ?aS ?aL ?_; (case aP => exact rfl); (case aB => exact (by repeat (first | (with_reducible first | exact HB.out | apply below_alloc | apply pw_below_drewN | apply below_drew1 | refine below_set ?_ GE383.out) | exact HB.out))); (case aF => exact (fun k_ hk => Kd.fresh' (Kd.R_lt (by (with_reducible repeat (first | apply Kd.R_alloc | apply Kd.R_drewN | apply Kd.R_drew)); exact HO_7.out)) k_ hk)); (case aO => exact (by (with_reducible repeat (first | apply Kd.R_alloc | apply Kd.R_drewN | apply Kd.R_drew)); exact HO_5.out)); (case aS => exact (below_size (by repeat (first | (with_reducible first | exact HB.out | apply below_alloc | apply pw_below_drewN | apply below_drew1 | refine below_set ?_ GE383.out) | exact HB.out)))); (case aL => have := LMc13.out; omega); intro v392 w15 ho hb hg hat; rw [← Ny391.out] at ho; have n0_ := Aside0.mk (Kd.R_after (ok := (fun _ => True)) (by (with_reducible repeat (first | apply Kd.R_alloc | apply Kd.R_drewN | apply Kd.R_drew)); exact Kd.R_mono HO_7.out (fun _ hk => ⟨trivial, hk⟩)) hg hat); have n1_ := Aside0.mk (blk_grown (g := gb383) (o := .cells #[.string a0_0, .slice A0_1 l0_1.length c0_1, .string a0_2, .slice A0_3 l0_3.length c0_3, .slice A0_4 l0_4.length c0_4, .slice A0_5 l0_5.length c0_5] 26 (0, 0)) (by (with_reducible repeat (first | refine blk_drewN ?_ _ | refine blk_drew ?_ | refine blk_alloc ?_ _)); exact BK383.out) hg (Kd.R_ne HO_5.out BK383.out (by decide))); have n2_ := Aside0.mk (hb); have n3_ := Aside0.mk (ho); clear HO_7; clear BK383; clear HB; clear HO_5; have HO_7 := n0_; have BK383 := n1_; have HB := n2_; have HO393 := n3_; clear n0_ n1_ n2_ n3_; clear ho hb hg hat))
          go_roundg k2
          case measure => have := HK1.out; have := HK2.out; omega
          case rel => exact ⟨(y391), (wrap64 (x8_2 + 1)), (by first | rfl | (simp; done) | (simp [*]; done)), H', ⟨by have := HK1.out; have := HK2.out; omega⟩, ⟨by (with_reducible repeat (first | apply Kd.R_alloc | apply Kd.R_drewN | apply Kd.R_drew)); exact HO393.out⟩, ⟨by (with_reducible repeat (first | apply Kd.R_alloc | apply Kd.R_drewN | apply Kd.R_drew)); exact Kd.R_mono HO_7.out (fun _ hk => hk.2)⟩, ⟨by (with_reducible repeat (first | refine blk_drewN ?_ _ | refine blk_drew ?_ | refine blk_alloc ?_ _)); exact BK383.out⟩, ⟨by repeat (first | (with_reducible first | exact HB.out | apply below_alloc | apply pw_below_drewN | apply below_drew1 | refine below_set ?_ GE383.out) | exact HB.out)⟩⟩
         ·rw [if_neg c13] at H
          exact absurd H (by simp)
        ·rw [if_neg c12] at H
         have c12b0 : ((rd t387 x8_2) == a1) = false := beq_eq_false_iff_ne.mpr c12
         have c12b1 : ((rd t387 x8_2) != a1) = true := bne_iff_ne.mpr c12
         have H' := Aside0.mk H
         clear H
         obtain ⟨Ao16, co16, eo16⟩ := Kd.R_slice HO_7.out
         subst eo16
         have p390 : 0 ≤ (x8_2 : Int) := of_decide_eq_true (by first | (with_reducible assumption) | assumption)
         have q390 : x8_2 < (t387.length : Int) := of_decide_eq_true (by first | (with_reducible assumption) | assumption)
         obtain ⟨ad390, e390, hx390_0⟩ := Kd.at_int (Kd.R_reads' HO_7.out).2.2 x8_2 p390 q390
         cases e390
         replace p390 := eq_true p390
         replace q390 := eq_true q390
         go_wp2
         go_roundg k2
         case measure => have := HK1.out; have := HK2.out; omega
         case rel => exact ⟨(x5_2), (wrap64 (x8_2 + 1)), (by first | rfl | (simp; done) | (simp [*]; done)), H', ⟨by have := HK1.out; have := HK2.out; omega⟩, ⟨by (with_reducible repeat (first | apply Kd.R_alloc | apply Kd.R_drewN | apply Kd.R_drew)); exact HO_5.out⟩, ⟨by (with_reducible repeat (first | apply Kd.R_alloc | apply Kd.R_drewN | apply Kd.R_drew)); exact HO_7.out⟩, ⟨by (with_reducible repeat (first | refine blk_drewN ?_ _ | refine blk_drew ?_ | refine blk_alloc ?_ _)); exact BK383.out⟩, ⟨by repeat (first | (with_reducible first | exact HB.out | apply below_alloc | apply pw_below_drewN | apply below_drew1 | refine below_set ?_ GE383.out) | exact HB.out)⟩⟩
       ·rw [if_neg c11] at H
        exact absurd H (by simp)
      ·rw [if_neg c10] at H
       have c10b0 : decide (x8_2 < (t387.length : Int)) = false := decide_eq_false c10
       clear c10
       have H' := Aside0.mk H
       clear H
       obtain ⟨Ao17, co17, eo17⟩ := Kd.R_slice HO_7.out
       subst eo17
       go_wp2
       go_roundg k2
       case measure => have := HK1.out; have := HK2.out; omega
       case rel => exact ⟨(x5_2), (wrap64 (x6_1 + 1)), (by first | rfl | (simp; done) | (simp [*]; done)), H', ⟨by have := HK1.out; have := HK2.out; omega⟩, ⟨by (with_reducible repeat (first | apply Kd.R_alloc | apply Kd.R_drewN | apply Kd.R_drew)); exact Kd.R_mono HO_5.out (fun _ hk => trivial)⟩, ⟨by (with_reducible repeat (first | refine blk_drewN ?_ _ | refine blk_drew ?_ | refine blk_alloc ?_ _)); exact BK383.out⟩, ⟨by repeat (first | (with_reducible first | exact HB.out | apply below_alloc | apply pw_below_drewN | apply below_drew1 | refine below_set ?_ GE383.out) | exact HB.out)⟩⟩
   ·rw [if_neg c6] at H
    have c6b0 : decide (x6_1 < (l0_5.length : Int)) = false := decide_eq_false c6
    clear c6
    obtain rfl := Option.some.inj H
    have hcz18_0 : wr.cell? ⟨gb383, 0, none⟩ = some (.string a0_0) := (blk_cell BK383.out 0).trans rfl
    have hcz18_1 : wr.cell? ⟨gb383, 1, none⟩ = some (.slice A0_1 l0_1.length c0_1) := (blk_cell BK383.out 1).trans rfl
    have hcz18_2 : wr.cell? ⟨gb383, 2, none⟩ = some (.string a0_2) := (blk_cell BK383.out 2).trans rfl
    have hcz18_3 : wr.cell? ⟨gb383, 3, none⟩ = some (.slice A0_3 l0_3.length c0_3) := (blk_cell BK383.out 3).trans rfl
    have hcz18_4 : wr.cell? ⟨gb383, 4, none⟩ = some (.slice A0_4 l0_4.length c0_4) := (blk_cell BK383.out 4).trans rfl
    have hcz18_5 : wr.cell? ⟨gb383, 5, none⟩ = some (.slice A0_5 l0_5.length c0_5) := (blk_cell BK383.out 5).trans rfl
    have hfz18_0 := blk_frozen BK383.out 0
    have hfz18_1 := blk_frozen BK383.out 1
    have hfz18_2 := blk_frozen BK383.out 2
    have hfz18_3 := blk_frozen BK383.out 3
    have hfz18_4 := blk_frozen BK383.out 4
    have hfz18_5 := blk_frozen BK383.out 5
    go_wp2
    go_ret
    exact ⟨_, by first | rfl | (simp [errW_none, errW_some] <;> rfl) | (simp [*, errW_none, errW_some] <;> rfl), by (with_reducible repeat (first | apply Kd.R_alloc | apply Kd.R_drewN | apply Kd.R_drew)); exact HO_5.out, by repeat (first | (with_reducible first | exact HB.out | apply below_alloc | apply pw_below_drewN | apply below_drew1 | refine below_set ?_ GE383.out) | exact HB.out)⟩

end Go.Proofs.Ytclhjalgflebfaa.Q

/- Flow, plain law: what the walk from a block on comes to. -/

namespace Go.Proofs.Ytclhjalgflebfaa.Q
open Go.RowKit Go.Proofs.YtclhjalgflebfaaW.PrintWords Go.Proofs.YtclhjalgflebfaaW.PrintLast Go.Proofs.YtclhjalgflebfaaW.PrintMore
set_option linter.unusedVariables false
set_option linter.unusedSimpArgs false
def hasR (s : List Bool) (x : Int) : Prop := 0 ≤ x ∧ x < (s.length : Int) ∧ rdOf false s x = true
theorem hasR_set {s : List Bool} {b x : Int} (hb0 : 0 ≤ b) (hb1 : b < (s.length : Int)) : hasR (s.set b.toNat true) x ↔ hasR s x ∨ x = b := by
 unfold hasR rdOf
 rw [List.length_set]
 by_cases h0 : 0 ≤ x ∧ x < (s.length : Int)
 ·by_cases hx : x = b
  ·subst hx
   simp only [List.getD]
   rw [List.getElem?_set_self (by omega)]
   simp [h0]
  ·have : ¬ b.toNat = x.toNat := by omega
   simp only [List.getD, List.getElem?_set, if_neg this]
   simp [hx]
 ·constructor
  ·intro h; exact absurd ⟨h.1, h.2.1⟩ h0
  ·rintro (h | rfl)
   ·exact absurd ⟨h.1, h.2.1⟩ h0
   ·exact absurd ⟨hb0, hb1⟩ h0
def unseen (s : List Bool) : Nat := s.count false
theorem unseen_set : ∀ {s : List Bool} {m : Nat}, m < s.length → s.getD m false = false → unseen (s.set m true) + 1 = unseen s
 | [], m, h, _ => by simp at h
 | a :: s, 0, _, h2 => by
  have : a = false := by simpa using h2
  subst this
  simp [unseen]
 | a :: s, m + 1, h, h2 => by
  have := unseen_set (s := s) (m := m) (by simpa using h) (by simpa using h2)
  simp only [unseen, List.set_cons_succ, List.count_cons] at this ⊢
  omega
/-- What one walk adds: e; from what it began: xs. -/
structure Adds (l : List S40) (s s' : List Bool) (xs e : List Int) : Prop where
 len : s'.length = s.length
 mem : ∀ x, hasR s' x ↔ hasR s x ∨ x ∈ e
 new : ∀ x, x ∈ e → ¬ hasR s x
 nodup : e.Nodup
 count : unseen s' + e.length = unseen s
 goes : ∀ x, x ∈ e → ∀ y, y ∈ nextOf l x → hasR s' y
 starts : ∀ x, x ∈ xs → hasR s' x
 led : ∀ e1 x e2, e = e1 ++ x :: e2 → x ∈ xs ∨ ∃ p, p ∈ e2 ∧ x ∈ nextOf l p
theorem Adds.trans {l : List S40} {s s1 s2 : List Bool} {x : Int} {xs e1 e2 : List Int} (h : Adds l s s1 [x] e1) (k : Adds l s1 s2 xs e2) : Adds l s s2 (x :: xs) (e1 ++ e2) := by
 refine ⟨k.len.trans h.len, fun y => ?_, fun y hy => ?_, ?_, ?_, fun y hy z hz => ?_, fun y hy => ?_, fun f1 y f2 he => ?_⟩
 ·rw [k.mem, h.mem, List.mem_append, or_assoc]
 ·rcases List.mem_append.mp hy with hy | hy
  ·exact h.new y hy
  ·exact fun hs => k.new y hy ((h.mem y).mpr (.inl hs))
 ·rw [List.nodup_append]
  refine ⟨h.nodup, k.nodup, fun a ha b hb hab => ?_⟩
  subst hab
  exact k.new a hb ((h.mem a).mpr (.inr ha))
 ·have h1 := h.count; have h2 := k.count
  rw [List.length_append]
  omega
 ·rcases List.mem_append.mp hy with hy | hy
  ·exact (k.mem z).mpr (.inl (h.goes y hy z hz))
  ·exact k.goes y hy z hz
 ·rcases List.mem_cons.mp hy with rfl | hy
  ·exact (k.mem y).mpr (.inl (h.starts y (by simp)))
  ·exact k.starts y hy
 ·rcases List.append_eq_append_iff.mp he with ⟨g, rfl, h2⟩ | ⟨g, h1, h2⟩
  ·rcases k.led g y f2 h2 with hq | hq
   ·exact .inl (List.mem_cons_of_mem _ hq)
   ·exact .inr hq
  ·cases g with
   | nil =>
    rw [List.append_nil] at h1
    rcases k.led [] y f2 (by simpa using h2.symm) with hq | hq
    ·exact .inl (List.mem_cons_of_mem _ hq)
    ·exact .inr hq
   | cons z g =>
    simp only [List.cons_append, List.cons.injEq] at h2
    obtain ⟨rfl, rfl⟩ := h2
    rcases h.led f1 y g h1 with hq | ⟨p, hp, hq⟩
    ·left
     rw [List.mem_singleton] at hq
     subst hq
     exact List.mem_cons_self
    ·exact .inr ⟨p, List.mem_append_left _ hp, hq⟩
theorem Adds.none {l : List S40} {s : List Bool} {xs : List Int} (h : ∀ x, x ∈ xs → hasR s x) : Adds l s s xs [] :=
 ⟨rfl, fun x => (by simp), fun x hx => (by cases hx), List.nodup_nil, rfl, fun x hx => (by cases hx), h, fun e1 x e2 he => (by simp at he)⟩
theorem fold_adds (l : List S40) (k : Nat) (hk : ∀ (b : Int) (s : List Bool) (d : List Int), s.length = l.length → 0 ≤ b → b < (l.length : Int) → ¬ hasR s b → unseen s ≤ k → d.length + unseen s < LIMF → ∃ s' e, visitO l k b s d = some (s', d ++ e) ∧ Adds l s s' [b] e) :
  ∀ (xs : List Int) (s : List Bool) (d : List Int), s.length = l.length → (∀ x ∈ xs, 0 ≤ x ∧ x < (l.length : Int)) → unseen s ≤ k → d.length + unseen s < LIMF → ∃ s' e, xs.foldlM (stepO l k) (s, d) = some (s', d ++ e) ∧ Adds l s s' xs e
 | [], s, d, _, _, _, _ => ⟨s, [], by simp, Adds.none (fun x hx => by cases hx)⟩
 | x :: xs, s, d, hs, hx, hu, hd => by
  have hx0 := hx x List.mem_cons_self
  rw [List.foldlM_cons]
  unfold stepO
  rw [if_pos (by rw [hs]; exact hx0)]
  by_cases hr : rdOf false s x = true
  ·rw [if_pos hr]
   obtain ⟨s', e, h1, h2⟩ := fold_adds l k hk xs s d hs (fun y hy => hx y (List.mem_cons_of_mem _ hy)) hu hd
   refine ⟨s', e, h1, ?_⟩
   have := (Adds.none (l := l) (s := s) (xs := [x]) (fun y hy => by rw [List.mem_singleton] at hy; subst hy; exact ⟨hx0.1, by rw [hs]; exact hx0.2, hr⟩)).trans h2
   simpa using this
  ·rw [if_neg hr]
   obtain ⟨s1, e1, h1, h2⟩ := hk x s d hs hx0.1 hx0.2 (fun h => hr h.2.2) hu hd
   have hc := h2.count
   obtain ⟨s2, e2, h3, h4⟩ := fold_adds l k hk xs s1 (d ++ e1) (h2.len.trans hs) (fun y hy => hx y (List.mem_cons_of_mem _ hy)) (by omega) (by rw [List.length_append]; omega)
   refine ⟨s2, e1 ++ e2, ?_, h2.trans h4⟩
   rw [← List.append_assoc]
   show (visitO l k x s d).bind _ = _
   rw [h1]
   exact h3
theorem visit_adds (l : List S40) : ∀ (k : Nat) (b : Int) (s : List Bool) (d : List Int), s.length = l.length → 0 ≤ b → b < (l.length : Int) → ¬ hasR s b → unseen s ≤ k → d.length + unseen s < LIMF → ∃ s' e, visitO l k b s d = some (s', d ++ e) ∧ Adds l s s' [b] e ∧ ∃ e', e = e' ++ [b] ∧ ((nextOf l b).foldlM (stepO l (k - 1)) (s.set b.toNat true, d)) = some (s', d ++ e') ∧ Adds l (s.set b.toNat true) s' (nextOf l b) e'
 | 0, b, s, d, hs, h0, h1, hn, hu, hd => by
  have h2 : s.getD b.toNat false = false := by
   cases hq : s.getD b.toNat false with
   | false => rfl
   | true => exact absurd ⟨h0, by omega, hq⟩ hn
  have := unseen_set (s := s) (m := b.toNat) (by omega) h2
  omega
 | k + 1, b, s, d, hs, h0, h1, hn, hu, hd => by
  have h2 : s.getD b.toNat false = false := by
   cases hq : s.getD b.toNat false with
   | false => rfl
   | true => exact absurd ⟨h0, by omega, hq⟩ hn
  have hu2 := unseen_set (s := s) (m := b.toNat) (by omega) h2
  obtain ⟨s', e, h3, h4⟩ := fold_adds l k (fun b s d h1 h2 h3 h4 h5 h6 => by obtain ⟨s', e, q1, q2, _⟩ := visit_adds l k b s d h1 h2 h3 h4 h5 h6; exact ⟨s', e, q1, q2⟩) (nextOf l b) (s.set b.toNat true) d (by rw [List.length_set]; exact hs) (fun x hx => next_in hx) (by omega) (by omega)
  have hm := fun x => (hasR_set (s := s) (x := x) h0 (by omega : b < (s.length : Int)))
  have hc := h4.count
  refine ⟨s', e ++ [b], ?_, ⟨?_, fun x => ?_, fun x hx => ?_, ?_, ?_, fun x hx y hy => ?_, fun x hx => ?_, fun e1 x e2 he => ?_⟩, e, rfl, h3, h4⟩
  ·rw [visitO_succ, if_pos ⟨h0, by omega⟩, h3]
   simp only [Option.bind_some]
   rw [if_pos (by rw [List.length_append]; omega), List.append_assoc]
  ·rw [h4.len, List.length_set]
  ·rw [h4.mem, hm, List.mem_append, List.mem_singleton, or_assoc, or_comm (a := x = b)]
  ·rcases List.mem_append.mp hx with hx | hx
   ·exact fun h => h4.new x hx ((hm x).mpr (.inl h))
   ·rw [List.mem_singleton] at hx
    subst hx
    exact hn
  ·rw [List.nodup_append]
   refine ⟨h4.nodup, by simp, fun a ha c hc2 hac => ?_⟩
   rw [List.mem_singleton] at hc2
   subst hac hc2
   exact h4.new a ha ((hm a).mpr (.inr rfl))
  ·rw [List.length_append]
   simp only [List.length_singleton]
   omega
  ·rcases List.mem_append.mp hx with hx | hx
   ·exact h4.goes x hx y hy
   ·rw [List.mem_singleton] at hx
    subst hx
    exact h4.starts y hy
  ·rw [List.mem_singleton] at hx
   subst hx
   exact (h4.mem x).mpr (.inl ((hm x).mpr (.inr rfl)))
  ·rcases List.append_eq_append_iff.mp he with ⟨g, rfl, hg⟩ | ⟨g, h5, h6⟩
   ·cases g with
    | nil =>
     simp only [List.nil_append, List.cons.injEq] at hg
     exact .inl (by rw [hg.1]; simp)
    | cons z g => simp at hg
   ·cases g with
    | nil =>
     simp only [List.nil_append, List.cons.injEq] at h6
     exact .inl (by rw [← h6.1]; simp)
    | cons z g =>
     simp only [List.cons_append, List.cons.injEq] at h6
     obtain ⟨rfl, rfl⟩ := h6
     rcases h4.led e1 x g h5 with hq | ⟨p, hp, hq⟩
     ·exact .inr ⟨b, by simp, hq⟩
     ·exact .inr ⟨p, List.mem_append_left _ hp, hq⟩
end Go.Proofs.Ytclhjalgflebfaa.Q

/- Flow, plain law: the document's Next and Ahead, the code's Ahead; rows that are the same; 'wide'. -/

namespace Go.Proofs.Ytclhjalgflebfaa.Q
open Go.RowKit Go.Proofs.YtclhjalgflebfaaW.PrintWords Go.Proofs.YtclhjalgflebfaaW.PrintLast Go.Proofs.YtclhjalgflebfaaW.PrintMore
set_option linter.unusedVariables false
set_option linter.unusedSimpArgs false
theorem wrap_up {i : Nat} {n : Nat} (h : i < n) (hn : n ≤ 140737488351232) : wrap64 ((i : Int) + 1) = ((i + 1 : Nat) : Int) := by unfold wrap64; omega
section
variable (a0 : ByteArray) (l1 : List ByteArray) (a2 : ByteArray) (l3 : List ByteArray) (l4 : List S58) (l : List S40)
end
/-- Of the first n blocks those that lead to b. -/
def aheadTo (l : List S40) : Nat → Int → List Int
 | 0, _ => []
 | n + 1, b => aheadTo l n b ++ ((nextOf l n).filter (fun y => y == b)).map (fun _ => (n : Int))
theorem ahead_len (l : List S40) (b : Int) : ∀ n, (aheadTo l n b).length ≤ 2 * n
 | 0 => Nat.le_refl _
 | n + 1 => by
  have h1 := ahead_len l b n
  have h2 := next_len l n
  have h3 : ((nextOf l n).filter (fun y => y == b)).length ≤ (nextOf l n).length := List.length_filter_le _ _
  unfold aheadTo
  rw [List.length_append, List.length_map]
  omega
section
variable (a0 : ByteArray) (l1 : List ByteArray) (a2 : ByteArray) (l3 : List ByteArray) (l4 : List S58) (l : List S40) (hl : l.length ≤ 1099511627776)
include hl
/-- What Ahead holds behind n blocks: one row each. -/
def AheadIs (l : List S40) (n : Nat) (x : List (List Int)) : Prop := x.length = l.length ∧ ∀ b : Nat, b < l.length → x.getD b [] = aheadTo l n b
theorem flowAhead : ∃ x, Ev (fun k => flow_Ahead.f k a0 l1 a2 l3 l4 l) x ∧ AheadIs l l.length x := by
 unfold flow_Ahead.f
 have inner : ∀ (d j n : Nat) (acc : List (List Int)), (nextOf l n).length - j = d → j ≤ (nextOf l n).length → n < l.length → acc.length = l.length → (∀ b : Nat, b < l.length → acc.getD b [] = aheadTo l n b ++ (((nextOf l n).take j).filter (fun y => y == (b : Int))).map (fun _ => (n : Int))) →
   ∃ acc', AheadIs l (n + 1) acc' ∧ ∀ r, Ev (fun k => flow_Ahead.l0 k acc' (l.length : Int) ((n + 1 : Nat) : Int) a0 l1 a2 l3 l4 l) r → Ev (fun k => flow_Ahead.l1 k acc (n : Int) (l.length : Int) (n : Int) (nextOf l n) ((nextOf l n).length : Int) (j : Int) a0 l1 a2 l3 l4 l) r := by
  intro d
  induction d with
  | zero =>
   intro j n acc hd hj hn ha h
   refine ⟨acc, ⟨ha, fun b hb => ?_⟩, fun r hr => ?_⟩
   ·rw [h b hb, List.take_of_length_le (by omega)]
    rfl
   ·refine Ev.step (fun k => rfl) (Ev.neg (by omega) ?_)
    rw [wrap_up (n := l.length) hn (by omega)]
    exact hr
  | succ d ih =>
   intro j n acc hd hj hn ha h
   have hlt : j < (nextOf l n).length := by omega
   have h2 := next_len l n
   have hrd : rd (nextOf l n) (j : Int) = (nextOf l n)[j] := by unfold rd; rw [Int.toNat_natCast, getD_at _ _ hlt]
   have hin := next_in (List.getElem_mem hlt)
   obtain ⟨y, hy⟩ : ∃ y : Nat, (nextOf l n)[j] = (y : Int) := ⟨(nextOf l n)[j].toNat, by omega⟩
   rw [hy] at hin
   have hyl : y < l.length := by omega
   have hrow : rd_L2 acc (y : Int) = aheadTo l n y ++ (((nextOf l n).take j).filter (fun z => z == (y : Int))).map (fun _ => (n : Int)) := by unfold rd_L2; rw [Int.toNat_natCast, h y hyl]
   have h1 := ahead_len l y n
   have h3 : (((nextOf l n).take j).filter (fun z => z == (y : Int))).length ≤ 2 := by
    refine Nat.le_trans (List.length_filter_le _ _) ?_
    rw [List.length_take]
    omega
   have hlen : (rd_L2 acc (y : Int)).length < 17592186044416 := by rw [hrow, List.length_append, List.length_map]; omega
   obtain ⟨acc', hA, hE⟩ := ih (j + 1) n (acc.set y (rd_L2 acc (y : Int) ++ [(n : Int)])) (by omega) (by omega) hn (by simpa using ha) (fun b hb => by
    rw [List.take_succ_eq_append_getElem hlt, List.filter_append, List.map_append, ← List.append_assoc, ← h b hb, hy]
    by_cases hbe : y = b
    ·subst hbe
     simp only [List.getD]
     rw [List.getElem?_set_self (by omega)]
     simp [rd_L2, List.getD]
    ·simp only [List.getD]
     rw [List.getElem?_set_ne hbe]
     have : ¬ ((y : Int) == (b : Int)) = true := by simp; omega
     simp [List.filter_cons, this])
   refine ⟨acc', hA, fun r hr => ?_⟩
   refine Ev.step (fun k => rfl) (Ev.pos (by omega) (Ev.pos (by omega) (Ev.pos (by omega) ?_)))
   rw [hrd, hy, wrap_up (n := (nextOf l n).length) hlt (by omega), Int.toNat_natCast]
   exact Ev.pos (by omega) (Ev.pos (by omega) (Ev.pos hlen (hE r hr)))
 have outer : ∀ (d n : Nat) (acc : List (List Int)), l.length - n = d → n ≤ l.length → AheadIs l n acc → ∃ x, Ev (fun k => flow_Ahead.l0 k acc (l.length : Int) (n : Int) a0 l1 a2 l3 l4 l) x ∧ AheadIs l l.length x := by
  intro d
  induction d with
  | zero =>
   intro n acc hd hn ha
   rw [show n = l.length by omega] at ha ⊢
   exact ⟨acc, Ev.step (fun k => rfl) (Ev.neg (by omega) (Ev.now _)), ha⟩
  | succ d ih =>
   intro n acc hd hn ha
   obtain ⟨acc', hA, hE⟩ := inner _ 0 n acc rfl (Nat.zero_le _) (by omega) ha.1 (fun b hb => by rw [ha.2 b hb]; simp)
   obtain ⟨x, hx, hx2⟩ := ih (n + 1) acc' (by omega) (by omega) hA
   exact ⟨x, Ev.step (fun k => rfl) (Ev.pos (by omega) (hE x hx)), hx2⟩
 obtain ⟨x, hx, hx2⟩ := outer _ 0 (List.replicate l.length []) rfl (Nat.zero_le _) ⟨by simp, fun b hb => by simp [List.getD, hb, aheadTo]⟩
 refine ⟨x, Ev.pos (by omega) (Ev.pos (by omega) ?_), hx2⟩
 rw [Int.toNat_natCast]
 exact hx
end
end Go.Proofs.Ytclhjalgflebfaa.Q

namespace Go.Proofs.Ytclhjalgflebfaa.Q
open Go.RowKit Go.Proofs.YtclhjalgflebfaaW.PrintWords Go.Proofs.YtclhjalgflebfaaW.PrintLast Go.Proofs.YtclhjalgflebfaaW.PrintMore
attribute [local go_sem] max2_int min2_int max_two min_two max_three min_three max_four min_four   -- for this text's walks alone
set_option linter.unusedVariables false
set_option linter.unusedSimpArgs false

/-! ### truantref09_Reached: function 18 -/
mutual
def truantref09_Reached.l0 : Nat → List Bool → Int → ByteArray → List ByteArray → ByteArray → List ByteArray → List (S58) → List (S40) → Option (List Bool)
 | 0, _, _, _, _, _, _, _, _ => none
 | k + 1, x3, x4, x340000, x340001, x340002, x340003, x340004, x340005 => if x4 < (x3.length : Int) then (truantref09_Reached.l1 k x3 x4 0 x340000 x340001 x340002 x340003 x340004 x340005) else (some x3)
def truantref09_Reached.l1 : Nat → List Bool → Int → Int → ByteArray → List ByteArray → ByteArray → List ByteArray → List (S58) → List (S40) → Option (List Bool)
 | 0, _, _, _, _, _, _, _, _, _ => none
 | k + 1, x3, x4, x5, x340000, x340001, x340002, x340003, x340004, x340005 => if x5 < (x3.length : Int) then ((truantref09_Next.f k x340000 x340001 x340002 x340003 x340004 x340005 x5).bind fun t344 => (truantref09_Reached.l2 k x3 x4 x5 t344 0 x340000 x340001 x340002 x340003 x340004 x340005)) else (truantref09_Reached.l0 k x3 (wrap64 (x4 + 1)) x340000 x340001 x340002 x340003 x340004 x340005)
def truantref09_Reached.l2 : Nat → List Bool → Int → Int → List Int → Int → ByteArray → List ByteArray → ByteArray → List ByteArray → List (S58) → List (S40) → Option (List Bool)
 | 0, _, _, _, _, _, _, _, _, _, _, _ => none
 | k + 1, x3, x4, x5, x6, x7, x340000, x340001, x340002, x340003, x340004, x340005 => if 0 ≤ x5 then (if x5 < (x3.length : Int) then (if rdOf false x3 x5 = true then (if x7 < (x6.length : Int) then (if 0 ≤ x7 then (if 0 ≤ (rd x6 x7) then (if (rd x6 x7) < (x3.length : Int) then (truantref09_Reached.l2 k (x3.set ((rd x6 x7) : Int).toNat true) x4 x5 x6 (wrap64 (x7 + 1)) x340000 x340001 x340002 x340003 x340004 x340005) else (none)) else (none)) else (none)) else (truantref09_Reached.l1 k x3 x4 (wrap64 (x5 + 1)) x340000 x340001 x340002 x340003 x340004 x340005)) else (truantref09_Reached.l1 k x3 x4 (wrap64 (x5 + 1)) x340000 x340001 x340002 x340003 x340004 x340005)) else (none)) else (none)
end
def truantref09_Reached.f (k : Nat) (a0_0 : ByteArray) (l0_1 : List ByteArray) (a0_2 : ByteArray) (l0_3 : List ByteArray) (l0_4 : List (S58)) (l0_5 : List (S40)) : Option (List Bool) := if 0 ≤ (l0_5.length : Int) then (if ((l0_5.length : Int) : Int).toNat ≤ 281474976710656 then ((some (List.replicate ((l0_5.length : Int) : Int).toNat false : List Bool)).bind fun y340 => (if (y340.length : Int) = 0 then (some y340) else (if 0 < (y340.length : Int) then (truantref09_Reached.l0 k (y340.set (0 : Int).toNat true) 0 a0_0 l0_1 a0_2 l0_3 l0_4 l0_5) else (none)))) else (none)) else (none)
theorem truantref09_Reached.mono_l : ∀ k, (∀ y0 y1 y2 y3 y4 y5 y6 y7, LeO (truantref09_Reached.l0 k y0 y1 y2 y3 y4 y5 y6 y7) (truantref09_Reached.l0 (k + 1) y0 y1 y2 y3 y4 y5 y6 y7)) ∧ (∀ y0 y1 y2 y3 y4 y5 y6 y7 y8, LeO (truantref09_Reached.l1 k y0 y1 y2 y3 y4 y5 y6 y7 y8) (truantref09_Reached.l1 (k + 1) y0 y1 y2 y3 y4 y5 y6 y7 y8)) ∧ (∀ y0 y1 y2 y3 y4 y5 y6 y7 y8 y9 y10, LeO (truantref09_Reached.l2 k y0 y1 y2 y3 y4 y5 y6 y7 y8 y9 y10) (truantref09_Reached.l2 (k + 1) y0 y1 y2 y3 y4 y5 y6 y7 y8 y9 y10))
 | 0 => ⟨fun _ _ _ _ _ _ _ _ r h => by simp [truantref09_Reached.l0] at h, fun _ _ _ _ _ _ _ _ _ r h => by simp [truantref09_Reached.l1] at h, fun _ _ _ _ _ _ _ _ _ _ _ r h => by simp [truantref09_Reached.l2] at h⟩
 | k + 1 => by
  obtain ⟨ih0, ih1, ih2⟩ := truantref09_Reached.mono_l k
  refine ⟨?_, ?_, ?_⟩
  ·intro y0 y1 y2 y3 y4 y5 y6 y7
   unfold truantref09_Reached.l0
   repeat' first
   | (with_reducible exact ih0 _ _ _ _ _ _ _ _)
   | (with_reducible exact ih1 _ _ _ _ _ _ _ _ _)
   | (with_reducible exact ih2 _ _ _ _ _ _ _ _ _ _ _)
   | (with_reducible exact truantref09_Next.mono _ _ _ _ _ _ _ _)
   | (with_reducible exact LeO.refl _)
   | (with_reducible exact LeO.none _)
   | (with_reducible refine LeO.ite ?_ ?_)
   | (with_reducible refine LeO.bind ?_ (fun _ => ?_))
   | exact ih0 _ _ _ _ _ _ _ _
   | exact ih1 _ _ _ _ _ _ _ _ _
   | exact ih2 _ _ _ _ _ _ _ _ _ _ _
   | exact truantref09_Next.mono _ _ _ _ _ _ _ _
   | exact LeO.none _
   | refine LeO.ite ?_ ?_
   | refine LeO.bind ?_ (fun _ => ?_)
  ·intro y0 y1 y2 y3 y4 y5 y6 y7 y8
   unfold truantref09_Reached.l1
   repeat' first
   | (with_reducible exact ih0 _ _ _ _ _ _ _ _)
   | (with_reducible exact ih1 _ _ _ _ _ _ _ _ _)
   | (with_reducible exact ih2 _ _ _ _ _ _ _ _ _ _ _)
   | (with_reducible exact truantref09_Next.mono _ _ _ _ _ _ _ _)
   | (with_reducible exact LeO.refl _)
   | (with_reducible exact LeO.none _)
   | (with_reducible refine LeO.ite ?_ ?_)
   | (with_reducible refine LeO.bind ?_ (fun _ => ?_))
   | exact ih0 _ _ _ _ _ _ _ _
   | exact ih1 _ _ _ _ _ _ _ _ _
   | exact ih2 _ _ _ _ _ _ _ _ _ _ _
   | exact truantref09_Next.mono _ _ _ _ _ _ _ _
   | exact LeO.none _
   | refine LeO.ite ?_ ?_
   | refine LeO.bind ?_ (fun _ => ?_)
  ·intro y0 y1 y2 y3 y4 y5 y6 y7 y8 y9 y10
   unfold truantref09_Reached.l2
   repeat' first
   | (with_reducible exact ih0 _ _ _ _ _ _ _ _)
   | (with_reducible exact ih1 _ _ _ _ _ _ _ _ _)
   | (with_reducible exact ih2 _ _ _ _ _ _ _ _ _ _ _)
   | (with_reducible exact truantref09_Next.mono _ _ _ _ _ _ _ _)
   | (with_reducible exact LeO.refl _)
   | (with_reducible exact LeO.none _)
   | (with_reducible refine LeO.ite ?_ ?_)
   | (with_reducible refine LeO.bind ?_ (fun _ => ?_))
   | exact ih0 _ _ _ _ _ _ _ _
   | exact ih1 _ _ _ _ _ _ _ _ _
   | exact ih2 _ _ _ _ _ _ _ _ _ _ _
   | exact truantref09_Next.mono _ _ _ _ _ _ _ _
   | exact LeO.none _
   | refine LeO.ite ?_ ?_
   | refine LeO.bind ?_ (fun _ => ?_)
theorem truantref09_Reached.mono : ∀ a0 a1 a2 a3 a4 a5 k, LeO (truantref09_Reached.f k a0 a1 a2 a3 a4 a5) (truantref09_Reached.f (k + 1) a0 a1 a2 a3 a4 a5) := by
 intro a0 a1 a2 a3 a4 a5 k
 obtain ⟨ih0, ih1, ih2⟩ := truantref09_Reached.mono_l k
 unfold truantref09_Reached.f
 repeat' first
   | (with_reducible exact ih0 _ _ _ _ _ _ _ _)
   | (with_reducible exact ih1 _ _ _ _ _ _ _ _ _)
   | (with_reducible exact ih2 _ _ _ _ _ _ _ _ _ _ _)
   | (with_reducible exact truantref09_Next.mono _ _ _ _ _ _ _ _)
   | (with_reducible exact LeO.refl _)
   | (with_reducible exact LeO.none _)
   | (with_reducible refine LeO.ite ?_ ?_)
   | (with_reducible refine LeO.bind ?_ (fun _ => ?_))
   | exact ih0 _ _ _ _ _ _ _ _
   | exact ih1 _ _ _ _ _ _ _ _ _
   | exact ih2 _ _ _ _ _ _ _ _ _ _ _
   | exact truantref09_Next.mono _ _ _ _ _ _ _ _
   | exact LeO.none _
   | refine LeO.ite ?_ ?_
   | refine LeO.bind ?_ (fun _ => ?_)
set_option maxHeartbeats 8000000 in
set_option maxRecDepth 100000 in
theorem truantref09_Reached.calls (k : Nat) (a0_0 : ByteArray) (A0_1 : Option Addr) (c0_1 : Nat) (l0_1 : List ByteArray) (a0_2 : ByteArray) (A0_3 : Option Addr) (c0_3 : Nat) (l0_3 : List ByteArray) (A0_4 : Option Addr) (c0_4 : Nat) (l0_4 : List (S58)) (A0_5 : Option Addr) (c0_5 : Nat) (l0_5 : List (S40)) (r : List Bool) (w : World) (hr0_1 : Kd.C Kd.string w A0_1 l0_1.length l0_1) (hc0_1 : l0_1.length ≤ c0_1) (hr0_3 : Kd.C Kd.string w A0_3 l0_3.length l0_3) (hc0_3 : l0_3.length ≤ c0_3) (hr0_4 : Kd.C k58 w A0_4 l0_4.length l0_4) (hc0_4 : l0_4.length ≤ c0_4) (hr0_5 : Kd.C k40 w A0_5 l0_5.length l0_5) (hc0_5 : l0_5.length ≤ c0_5) (h : truantref09_Reached.f k a0_0 l0_1 a0_2 l0_3 l0_4 l0_5 = some r) :
  Calls Try.prog 18 #[.agg #[.string a0_0, .slice A0_1 l0_1.length c0_1, .string a0_2, .slice A0_3 l0_3.length c0_3, .slice A0_4 l0_4.length c0_4, .slice A0_5 l0_5.length c0_5]] w fun e w' => ∃ v0_ : Value, e = .returned (v0_) ∧ Kd.R Kd.bool 4 w' w.heap.size (fun _ => True) v0_ r ∧ Below w.heap.size w w' := by
 have hu26 := Try.underlying26
 have HR0_1 := Aside0.mk hr0_1
 have HC0_1 := Aside0.mk hc0_1
 clear hr0_1 hc0_1
 have HR0_3 := Aside0.mk hr0_3
 have HC0_3 := Aside0.mk hc0_3
 clear hr0_3 hc0_3
 have HR0_4 := Aside0.mk hr0_4
 have HC0_4 := Aside0.mk hc0_4
 clear hr0_4 hc0_4
 have HR0_5 := Aside0.mk hr0_5
 have HC0_5 := Aside0.mk hc0_5
 clear hr0_5 hc0_5
 have HB := Aside0.mk (Below.refl w.heap.size w)
 have H : (if 0 ≤ (l0_5.length : Int) then (if ((l0_5.length : Int) : Int).toNat ≤ 281474976710656 then ((some (List.replicate ((l0_5.length : Int) : Int).toNat false : List Bool)).bind fun y340 => (if (y340.length : Int) = 0 then (some y340) else (if 0 < (y340.length : Int) then (truantref09_Reached.l0 k (y340.set (0 : Int).toNat true) 0 a0_0 l0_1 a0_2 l0_3 l0_4 l0_5) else (none)))) else (none)) else (none)) = some r := h
 clear h
 by_cases c2 : 0 ≤ (l0_5.length : Int)
 ·rw [if_pos c2] at H
  have c2b0 := eq_true c2
  have c2b1 : decide (0 ≤ (l0_5.length : Int)) = true := decide_eq_true c2
  clear c2
  by_cases c3 : ((l0_5.length : Int) : Int).toNat ≤ 281474976710656
  ·rw [if_pos c3] at H
   have c3b0 := eq_true c3
   have c3b1 : decide (((l0_5.length : Int) : Int).toNat ≤ 281474976710656) = true := decide_eq_true c3
   clear c3
   obtain ⟨y340, hy340⟩ : ∃ y_ : List Bool, y_ = (List.replicate ((l0_5.length : Int) : Int).toNat false) := ⟨_, rfl⟩
   replace H : (if (y340.length : Int) = 0 then (some y340) else (if 0 < (y340.length : Int) then (truantref09_Reached.l0 k (y340.set (0 : Int).toNat true) 0 a0_0 l0_1 a0_2 l0_3 l0_4 l0_5) else (none))) = some r := by first | (rw [hy340]; with_reducible exact H) | (have H2_ := (Option.bind_some _ _).symm.trans H; rw [hy340]; with_reducible exact H2_) | (have H2_ := (Option.bind_some _ _).symm.trans H; with_reducible exact H2_) | with_reducible exact H | (rw [hy340]; exact H) | exact H
   have Ny340 := Aside0.mk hy340
   clear hy340
   by_cases c4 : (y340.length : Int) = 0
   ·rw [if_pos c4] at H
    have c4b0 : ((y340.length : Int) == 0) = true := beq_iff_eq.mpr c4
    have c4b1 : ((y340.length : Int) != 0) = false := bne_eq_false_iff_eq.mpr c4
    clear c4
    obtain rfl := Option.some.inj H
    go_enter Try.func18, Try.ntmps18
    go_wp2_with (first | ((with_reducible refine gate_dst (N := 1) rfl ?_); (try (refine gate_guard (by rfl) ?_; dsimp only)); refine box_event ?hg (N := 1) ?hd (cs := #[.string a0_0, .slice A0_1 l0_1.length c0_1, .string a0_2, .slice A0_3 l0_3.length c0_3, .slice A0_4 l0_4.length c0_4, .slice A0_5 l0_5.length c0_5]) (t := 26) ?hr ?_; (case hd => rfl); (case hg => rfl); (case hr => first | (go_simp; done) | (go_simp; rfl)); intro gb339 hg w5 hbox hb; have n0_ := Aside0.mk (below_step (by repeat (first | (with_reducible first | exact HB.out | apply below_alloc | apply pw_below_drewN | apply below_drew1) | exact HB.out)) hb); have n1_ := Aside0.mk (hbox); have n2_ := Aside0.mk ((by rw [hg]; exact (below_size (by repeat (first | (with_reducible first | exact HB.out | apply below_alloc | apply pw_below_drewN | apply below_drew1) | exact HB.out))) : w.heap.size ≤ gb339)); have n3_ := Aside0.mk ((by rw [hg]; exact (below_size (by repeat (first | (with_reducible first | exact HB.out | apply below_alloc | apply pw_below_drewN | apply below_drew1) | exact HB.out))) : w.heap.size ≤ gb339)); clear HB; have HB := n0_; have BK339 := n1_; have GW339 := n2_; have GE339 := n3_; clear n0_ n1_ n2_ n3_; clear hb hbox hg; have hcz6_0 : w5.cell? ⟨gb339, 0, none⟩ = some (.string a0_0) := (blk_cell BK339.out 0).trans rfl; have hcz6_1 : w5.cell? ⟨gb339, 1, none⟩ = some (.slice A0_1 l0_1.length c0_1) := (blk_cell BK339.out 1).trans rfl; have hcz6_2 : w5.cell? ⟨gb339, 2, none⟩ = some (.string a0_2) := (blk_cell BK339.out 2).trans rfl; have hcz6_3 : w5.cell? ⟨gb339, 3, none⟩ = some (.slice A0_3 l0_3.length c0_3) := (blk_cell BK339.out 3).trans rfl; have hcz6_4 : w5.cell? ⟨gb339, 4, none⟩ = some (.slice A0_4 l0_4.length c0_4) := (blk_cell BK339.out 4).trans rfl; have hcz6_5 : w5.cell? ⟨gb339, 5, none⟩ = some (.slice A0_5 l0_5.length c0_5) := (blk_cell BK339.out 5).trans rfl; have hfz6_0 := blk_frozen BK339.out 0; have hfz6_1 := blk_frozen BK339.out 1; have hfz6_2 := blk_frozen BK339.out 2; have hfz6_3 := blk_frozen BK339.out 3; have hfz6_4 := blk_frozen BK339.out 4; have hfz6_5 := blk_frozen BK339.out 5) | ((with_reducible refine gate_dst (N := 11) rfl ?_); (try (refine gate_guard (by rfl) ?_; dsimp only)); refine Kd.R_make Kd.bool _ 4 rfl (N := 11) rfl 31 _ _ rfl (l0_5.length : Int) rfl rfl Try.underlying31 (.bool false) 1 info4 rfl (by decide) (by omega) false (ok := fun _ => True) (okp := fun _ => True) rfl (fun _ hk => hk) trivial (of_decide_eq_true (by first | (with_reducible assumption) | assumption)) (Nat.le_trans (Nat.mul_le_mul_right _ (of_decide_eq_true (by first | (with_reducible assumption) | assumption) : (l0_5.length : Int).toNat ≤ 281474976710656)) (by omega)) (Below.refl _ _) (Nat.le_refl _) ?_; intro v341 w7 ho8 hb hg_ hnew_; clear hg_ hnew_; (first | rw [← Ny340.out] at ho8 | (simp only [Int.reduceToNat] at ho8; rw [← Ny340.out] at ho8)); have n0_ := Aside0.mk (Kd.R_lower ho8 (below_size (by repeat (first | (with_reducible first | exact HB.out | apply below_alloc | apply pw_below_drewN | apply below_drew1 | refine below_set ?_ GE339.out) | exact HB.out)))); have n1_ := Aside0.mk (blk_below (g := gb339) (o := .cells #[.string a0_0, .slice A0_1 l0_1.length c0_1, .string a0_2, .slice A0_3 l0_3.length c0_3, .slice A0_4 l0_4.length c0_4, .slice A0_5 l0_5.length c0_5] 26 (0, 0)) (by (with_reducible repeat (first | refine blk_drewN ?_ _ | refine blk_drew ?_ | refine blk_alloc ?_ _)); exact BK339.out) hb); have n2_ := Aside0.mk (below_step (by repeat (first | (with_reducible first | exact HB.out | apply below_alloc | apply pw_below_drewN | apply below_drew1 | refine below_set ?_ GE339.out) | exact HB.out)) hb); clear BK339; clear HB; have HO342 := n0_; have BK339 := n1_; have HB := n2_; clear n0_ n1_ n2_; clear hb ho8; obtain ⟨Ao9, co9, eo9⟩ := Kd.R_slice HO342.out; subst eo9))
    go_ret
    exact ⟨_, by first | rfl | (simp [errW_none, errW_some] <;> rfl) | (simp [*, errW_none, errW_some] <;> rfl), by (with_reducible repeat (first | apply Kd.R_alloc | apply Kd.R_drewN | apply Kd.R_drew)); exact HO342.out, by repeat (first | (with_reducible first | exact HB.out | apply below_alloc | apply pw_below_drewN | apply below_drew1 | refine below_set ?_ GE339.out) | exact HB.out)⟩
   ·rw [if_neg c4] at H
    have c4b0 : ((y340.length : Int) == 0) = false := beq_eq_false_iff_ne.mpr c4
    have c4b1 : ((y340.length : Int) != 0) = true := bne_iff_ne.mpr c4
    have c4b2 : ¬ (y340 = []) := fun h_ => c4 (by rw [h_]; rfl)
    by_cases c10 : 0 < (y340.length : Int)
    ·rw [if_pos c10] at H
     have c10b0 : decide (0 < (y340.length : Int)) = true := decide_eq_true c10
     have c10b1 : decide (0 < y340.length) = true := decide_eq_true (by omega)
     clear c10
     obtain ⟨y343, hy343⟩ : ∃ y_ : List Bool, y_ = (y340.set (0 : Int).toNat true) := ⟨_, rfl⟩
     replace H : (truantref09_Reached.l0 k y343 0 a0_0 l0_1 a0_2 l0_3 l0_4 l0_5) = some r := by first | (rw [hy343]; with_reducible exact H) | (have H2_ := (Option.bind_some _ _).symm.trans H; rw [hy343]; with_reducible exact H2_) | (have H2_ := (Option.bind_some _ _).symm.trans H; with_reducible exact H2_) | with_reducible exact H | (rw [hy343]; exact H) | exact H
     have Ny343 := Aside0.mk hy343
     clear hy343
     have H' := Aside0.mk H
     clear H
     go_enter Try.func18, Try.ntmps18
     go_wp2_with (first | ((with_reducible refine gate_dst (N := 1) rfl ?_); (try (refine gate_guard (by rfl) ?_; dsimp only)); refine box_event ?hg (N := 1) ?hd (cs := #[.string a0_0, .slice A0_1 l0_1.length c0_1, .string a0_2, .slice A0_3 l0_3.length c0_3, .slice A0_4 l0_4.length c0_4, .slice A0_5 l0_5.length c0_5]) (t := 26) ?hr ?_; (case hd => rfl); (case hg => rfl); (case hr => first | (go_simp; done) | (go_simp; rfl)); intro gb339 hg w12 hbox hb; have n0_ := Aside0.mk (below_step (by repeat (first | (with_reducible first | exact HB.out | apply below_alloc | apply pw_below_drewN | apply below_drew1) | exact HB.out)) hb); have n1_ := Aside0.mk (hbox); have n2_ := Aside0.mk ((by rw [hg]; exact (below_size (by repeat (first | (with_reducible first | exact HB.out | apply below_alloc | apply pw_below_drewN | apply below_drew1) | exact HB.out))) : w.heap.size ≤ gb339)); have n3_ := Aside0.mk ((by rw [hg]; exact (below_size (by repeat (first | (with_reducible first | exact HB.out | apply below_alloc | apply pw_below_drewN | apply below_drew1) | exact HB.out))) : w.heap.size ≤ gb339)); clear HB; have HB := n0_; have BK339 := n1_; have GW339 := n2_; have GE339 := n3_; clear n0_ n1_ n2_ n3_; clear hb hbox hg; have hcz13_0 : w12.cell? ⟨gb339, 0, none⟩ = some (.string a0_0) := (blk_cell BK339.out 0).trans rfl; have hcz13_1 : w12.cell? ⟨gb339, 1, none⟩ = some (.slice A0_1 l0_1.length c0_1) := (blk_cell BK339.out 1).trans rfl; have hcz13_2 : w12.cell? ⟨gb339, 2, none⟩ = some (.string a0_2) := (blk_cell BK339.out 2).trans rfl; have hcz13_3 : w12.cell? ⟨gb339, 3, none⟩ = some (.slice A0_3 l0_3.length c0_3) := (blk_cell BK339.out 3).trans rfl; have hcz13_4 : w12.cell? ⟨gb339, 4, none⟩ = some (.slice A0_4 l0_4.length c0_4) := (blk_cell BK339.out 4).trans rfl; have hcz13_5 : w12.cell? ⟨gb339, 5, none⟩ = some (.slice A0_5 l0_5.length c0_5) := (blk_cell BK339.out 5).trans rfl; have hfz13_0 := blk_frozen BK339.out 0; have hfz13_1 := blk_frozen BK339.out 1; have hfz13_2 := blk_frozen BK339.out 2; have hfz13_3 := blk_frozen BK339.out 3; have hfz13_4 := blk_frozen BK339.out 4; have hfz13_5 := blk_frozen BK339.out 5) | ((with_reducible refine gate_dst (N := 11) rfl ?_); (try (refine gate_guard (by rfl) ?_; dsimp only)); refine Kd.R_make Kd.bool _ 4 rfl (N := 11) rfl 31 _ _ rfl (l0_5.length : Int) rfl rfl Try.underlying31 (.bool false) 1 info4 rfl (by decide) (by omega) false (ok := fun _ => True) (okp := fun _ => True) rfl (fun _ hk => hk) trivial (of_decide_eq_true (by first | (with_reducible assumption) | assumption)) (Nat.le_trans (Nat.mul_le_mul_right _ (of_decide_eq_true (by first | (with_reducible assumption) | assumption) : (l0_5.length : Int).toNat ≤ 281474976710656)) (by omega)) (Below.refl _ _) (Nat.le_refl _) ?_; intro v341 w14 ho15 hb hg_ hnew_; clear hg_ hnew_; (first | rw [← Ny340.out] at ho15 | (simp only [Int.reduceToNat] at ho15; rw [← Ny340.out] at ho15)); have n0_ := Aside0.mk (Kd.R_lower ho15 (below_size (by repeat (first | (with_reducible first | exact HB.out | apply below_alloc | apply pw_below_drewN | apply below_drew1 | refine below_set ?_ GE339.out) | exact HB.out)))); have n1_ := Aside0.mk (blk_below (g := gb339) (o := .cells #[.string a0_0, .slice A0_1 l0_1.length c0_1, .string a0_2, .slice A0_3 l0_3.length c0_3, .slice A0_4 l0_4.length c0_4, .slice A0_5 l0_5.length c0_5] 26 (0, 0)) (by (with_reducible repeat (first | refine blk_drewN ?_ _ | refine blk_drew ?_ | refine blk_alloc ?_ _)); exact BK339.out) hb); have n2_ := Aside0.mk (below_step (by repeat (first | (with_reducible first | exact HB.out | apply below_alloc | apply pw_below_drewN | apply below_drew1 | refine below_set ?_ GE339.out) | exact HB.out)) hb); clear BK339; clear HB; have HO342 := n0_; have BK339 := n1_; have HB := n2_; clear n0_ n1_ n2_; clear hb ho15; obtain ⟨Ao16, co16, eo16⟩ := Kd.R_slice HO342.out; subst eo16; have p11 : 0 ≤ (0 : Int) := (by omega); have q11 : (0 : Int) < ((y340.length : Int) : Int) := of_decide_eq_true (by first | (with_reducible assumption) | assumption); have qi11 : (0 < y340.length) = True := eq_true (by omega); obtain ⟨go11, co11, eo11, gb11, gl11, cl11, HG11⟩ := Kd.R_form HO342.out (by omega); (first | cases eo11 | (injection eo11 with ea_ en_ ec_; (first | subst ea_ | (injection ea_ with ea_; subst ea_)); subst ec_; clear en_)); have GB11 := Aside0.mk gb11; have GG11 := Aside0.mk HG11; clear gb11 gl11 HG11; obtain ⟨hx11_0, hf11_0⟩ := Kd.R_celln false HO342.out (0 : Int) p11 q11; (try rw [show ((0 : Int)).toNat = 0 from rfl] at hx11_0); (try simp only [Nat.reduceMul, Nat.zero_mul, Nat.zero_add, Nat.reduceAdd] at hx11_0); (try rw [show ((0 : Int)).toNat = 0 from rfl] at hf11_0); (try simp only [Nat.reduceMul, Nat.zero_mul, Nat.zero_add, Nat.reduceAdd] at hf11_0); replace p11 := eq_true p11; replace q11 := eq_true q11; obtain ⟨hy17_, hz17_⟩ := Kd.R_celln false HO342.out (0 : Int) (by omega) (of_decide_eq_true (by first | (with_reducible assumption) | assumption)); (try simp only [Int.reduceToNat, Int.toNat_zero, Int.toNat_ofNat, Nat.reduceMul, Nat.zero_mul, Nat.zero_add] at hy17_ hz17_); (try rw [show ((0 : Int)).toNat = 0 from rfl] at hy17_); (try rw [show ((0 : Int)).toNat = 0 from rfl] at hz17_); have HP17 := Kd.R_putg HO342.out (0 : Int) true) | ((with_reducible refine gate_store (t := 4) (p := 17) rfl ?_); refine store_event (t := 4) (p := 17) (v := ?vo_w18) (w1 := (w14.setCell ⟨go11, (0 : Int).toNat, none⟩ (.bool true))) ?hg ?ho ?hn ?hr ?_; (case ho => rfl); (case hg => rfl); (case hn => rfl); (case hr => first | (go_simp; done) | (go_simp; rfl)); intro w18 hw; have hg : w14.grownBy w18 (some go11) := (by rw [hw]; exact HP17.2); have hp_ : Kd.R Kd.bool 4 w18 w.heap.size (fun _ => True) (.slice (some ⟨go11, 0, none⟩) y340.length co16) y343 := (by rw [hw, Ny343.out]; exact HP17.1); clear HP17; have n0_ := Aside0.mk (blk_grown (g := gb339) (o := .cells #[.string a0_0, .slice A0_1 l0_1.length c0_1, .string a0_2, .slice A0_3 l0_3.length c0_3, .slice A0_4 l0_4.length c0_4, .slice A0_5 l0_5.length c0_5] 26 (0, 0)) (by (with_reducible repeat (first | refine blk_drewN ?_ _ | refine blk_drew ?_ | refine blk_alloc ?_ _)); exact BK339.out) hg (Kd.R_ne HO342.out BK339.out (by decide))); have n1_ := Aside0.mk (hp_); have n2_ := Aside0.mk ((by rw [hw]; exact below_set (HB.out) GB11.out : Below w.heap.size w w18)); clear BK339; clear HO342; clear HB; have BK339 := n0_; have HO342 := n1_; have HB := n2_; clear n0_ n1_ n2_; clear hg hw hp_))
     go_loopg [4] k (fun kq v4 w' => ∃ (x3_1 : List Bool) (x4_1 : Int), v4 = .int .i64 x4_1 ∧ Aside0 (truantref09_Reached.l0 kq x3_1 x4_1 a0_0 l0_1 a0_2 l0_3 l0_4 l0_5 = some r) ∧ Aside0 (kq ≤ k) ∧ Aside0 (Kd.R Kd.bool 4 w' w.heap.size (fun _ => True) (.slice (some ⟨go11, 0, none⟩) y340.length co16) x3_1) ∧ Aside0 (w'.heap[gb339]? = some (.cells #[.string a0_0, (.slice A0_1 l0_1.length c0_1), .string a0_2, (.slice A0_3 l0_3.length c0_3), (.slice A0_4 l0_4.length c0_4), (.slice A0_5 l0_5.length c0_5)] 26 (0, 0))) ∧ Aside0 (Below w.heap.size w w'))
     case atStart => exact ⟨(y343), (0), (by first | rfl | (simp; done) | (simp [*]; done)), H', ⟨Nat.le_refl _⟩, ⟨by (with_reducible repeat (first | apply Kd.R_alloc | apply Kd.R_drewN | apply Kd.R_drew)); exact HO342.out⟩, ⟨by (with_reducible repeat (first | refine blk_drewN ?_ _ | refine blk_drew ?_ | refine blk_alloc ?_ _)); exact BK339.out⟩, ⟨by repeat (first | (with_reducible first | exact HB.out | apply below_alloc | apply pw_below_drewN | apply below_drew1 | refine below_set ?_ GE339.out) | exact HB.out)⟩⟩
     case round =>
      clear H'
      try clear c1
      try clear p1
      try clear q1
      try clear hx1
      try clear qi1
      try clear hf1
      try clear c2
      try clear c2b0
      try clear c2b1
      try clear p2
      try clear c3
      try clear c3b0
      try clear c3b1
      try clear c4
      try clear c4b0
      try clear c4b1
      try clear c4b2
      try clear c10
      try clear c10b0
      try clear c10b1
      try clear p11
      try clear q11
      try clear hx11
      try clear qi11
      try clear hf11
      try clear c18
      try clear hcz13_0
      try clear hcz13_1
      try clear hcz13_2
      try clear hcz13_3
      try clear hcz13_4
      try clear hcz13_5
      try clear hcz6_0
      try clear hcz6_1
      try clear hcz6_2
      try clear hcz6_3
      try clear hcz6_4
      try clear hcz6_5
      try clear hfz13_0
      try clear hfz13_1
      try clear hfz13_2
      try clear hfz13_3
      try clear hfz13_4
      try clear hfz13_5
      try clear hfz6_0
      try clear hfz6_1
      try clear hfz6_2
      try clear hfz6_3
      try clear hfz6_4
      try clear hfz6_5
      try clear hx11_0
      try clear p11
      try clear q11
      obtain ⟨x3_1, x4_1, rfl, HA, HK1, HO_3, BK339, HB⟩ := hrel
      have hl3_1 := (Kd.R_reads' HO_3.out).1
      rw [hl3_1] at HO_3
      (try simp only [hl3_1])
      (try simp only [hl3_1] at BK339)
      cases gk with
      | zero => exact absurd HA.out (by simp [truantref09_Reached.l0])
      | succ k1 =>
       have H := HA.out
       clear HA
       simp only [truantref09_Reached.l0] at H
       by_cases c19 : x4_1 < (x3_1.length : Int)
       ·rw [if_pos c19] at H
        have c19b0 : decide (x4_1 < (x3_1.length : Int)) = true := decide_eq_true c19
        clear c19
        have H' := Aside0.mk H
        clear H
        go_wp2
        go_loopg [5] k1 (fun kq v5 w' => ∃ (x3_2 : List Bool) (x5_2 : Int), v5 = .int .i64 x5_2 ∧ Aside0 (truantref09_Reached.l1 kq x3_2 x4_1 x5_2 a0_0 l0_1 a0_2 l0_3 l0_4 l0_5 = some r) ∧ Aside0 (kq ≤ k1) ∧ Aside0 (Kd.R Kd.bool 4 w' w.heap.size (fun _ => True) (.slice (some ⟨go11, 0, none⟩) x3_1.length co16) x3_2) ∧ Aside0 (w'.heap[gb339]? = some (.cells #[.string a0_0, (.slice A0_1 l0_1.length c0_1), .string a0_2, (.slice A0_3 l0_3.length c0_3), (.slice A0_4 l0_4.length c0_4), (.slice A0_5 l0_5.length c0_5)] 26 (0, 0))) ∧ Aside0 (Below w.heap.size w w'))
        case atStart => exact ⟨(x3_1), (0), (by first | rfl | (simp; done) | (simp [*]; done)), H', ⟨Nat.le_refl _⟩, ⟨by (try simp only [hl3_1]); (with_reducible repeat (first | apply Kd.R_alloc | apply Kd.R_drewN | apply Kd.R_drew)); exact HO_3.out⟩, ⟨by (try simp only [hl3_1]); (with_reducible repeat (first | refine blk_drewN ?_ _ | refine blk_drew ?_ | refine blk_alloc ?_ _)); exact BK339.out⟩, ⟨by repeat (first | (with_reducible first | exact HB.out | apply below_alloc | apply pw_below_drewN | apply below_drew1 | refine below_set ?_ GE339.out) | exact HB.out)⟩⟩
        case round =>
         clear H'
         try clear c1
         try clear p1
         try clear q1
         try clear hx1
         try clear qi1
         try clear hf1
         try clear c2
         try clear c2b0
         try clear c2b1
         try clear p2
         try clear c3
         try clear c3b0
         try clear c3b1
         try clear c4
         try clear c4b0
         try clear c4b1
         try clear c4b2
         try clear c10
         try clear c10b0
         try clear c10b1
         try clear p11
         try clear q11
         try clear hx11
         try clear qi11
         try clear hf11
         try clear c18
         try clear c19
         try clear c19b0
         try clear hcz13_0
         try clear hcz13_1
         try clear hcz13_2
         try clear hcz13_3
         try clear hcz13_4
         try clear hcz13_5
         try clear hcz6_0
         try clear hcz6_1
         try clear hcz6_2
         try clear hcz6_3
         try clear hcz6_4
         try clear hcz6_5
         try clear hfz13_0
         try clear hfz13_1
         try clear hfz13_2
         try clear hfz13_3
         try clear hfz13_4
         try clear hfz13_5
         try clear hfz6_0
         try clear hfz6_1
         try clear hfz6_2
         try clear hfz6_3
         try clear hfz6_4
         try clear hfz6_5
         try clear hx11_0
         try clear p1
         try clear p11
         try clear p2
         try clear q1
         try clear q11
         obtain ⟨x3_2, x5_2, rfl, HA, HK2, HO_3, BK339, HB⟩ := hrel
         have hl3_2 := (Kd.R_reads' HO_3.out).1
         rw [hl3_2] at HO_3
         (try simp only [hl3_2])
         (try simp only [hl3_2] at BK339)
         cases gk with
         | zero => exact absurd HA.out (by simp [truantref09_Reached.l1])
         | succ k2 =>
          have H := HA.out
          clear HA
          simp only [truantref09_Reached.l1] at H
          by_cases c20 : x5_2 < (x3_2.length : Int)
          ·rw [if_pos c20] at H
           have c20b0 : decide (x5_2 < (x3_2.length : Int)) = true := decide_eq_true c20
           clear c20
           replace H := Option.bind_eq_some_iff.mp H
           obtain ⟨t344, A210, H⟩ := H
           replace H : (truantref09_Reached.l2 k2 x3_2 x4_1 x5_2 t344 0 a0_0 l0_1 a0_2 l0_3 l0_4 l0_5) = some r := H
           have A21 := Aside0.mk A210
           clear A210
           have H' := Aside0.mk H
           clear H
           have hcz22_0 : wr.cell? ⟨gb339, 0, none⟩ = some (.string a0_0) := (blk_cell BK339.out 0).trans rfl
           have hcz22_1 : wr.cell? ⟨gb339, 1, none⟩ = some (.slice A0_1 l0_1.length c0_1) := (blk_cell BK339.out 1).trans rfl
           have hcz22_2 : wr.cell? ⟨gb339, 2, none⟩ = some (.string a0_2) := (blk_cell BK339.out 2).trans rfl
           have hcz22_3 : wr.cell? ⟨gb339, 3, none⟩ = some (.slice A0_3 l0_3.length c0_3) := (blk_cell BK339.out 3).trans rfl
           have hcz22_4 : wr.cell? ⟨gb339, 4, none⟩ = some (.slice A0_4 l0_4.length c0_4) := (blk_cell BK339.out 4).trans rfl
           have hcz22_5 : wr.cell? ⟨gb339, 5, none⟩ = some (.slice A0_5 l0_5.length c0_5) := (blk_cell BK339.out 5).trans rfl
           have hfz22_0 := blk_frozen BK339.out 0
           have hfz22_1 := blk_frozen BK339.out 1
           have hfz22_2 := blk_frozen BK339.out 2
           have hfz22_3 := blk_frozen BK339.out 3
           have hfz22_4 := blk_frozen BK339.out 4
           have hfz22_5 := blk_frozen BK339.out 5
           go_wp2_with (first | ((with_reducible refine gate_callee (f := 21) rfl ?_); refine goesL_ (some 32) rfl rfl Try.func21 (by kernel_rfl) rfl #[.agg #[.string a0_0, .slice A0_1 l0_1.length c0_1, .string a0_2, .slice A0_3 l0_3.length c0_3, .slice A0_4 l0_4.length c0_4, .slice A0_5 l0_5.length c0_5], .int .i64 x5_2] rfl (by (try simp only [List.map_toArray, List.map_cons, List.map_nil]); first | done | rfl | (simp only [List.length_drop, List.length_take]; rfl)) ?_; (with_reducible refine (truantref09_Next.calls k2 a0_0 _ _ l0_1 a0_2 _ _ l0_3 _ _ l0_4 _ _ l0_5 x5_2 t344 _ ?side1 ?side2 ?side3 ?side4 ?side5 ?side6 ?side7 ?side8 A21.out).mono ?_); (case side1 => repeat (first | exact (Kd.C_below HR0_1.out HB.out) | (with_reducible refine Kd.C_alloc ?_ _) | (with_reducible refine Kd.C_drewN ?_ _) | (with_reducible refine Kd.C_drew ?_))); (case side2 => exact HC0_1.out); (case side3 => repeat (first | exact (Kd.C_below HR0_3.out HB.out) | (with_reducible refine Kd.C_alloc ?_ _) | (with_reducible refine Kd.C_drewN ?_ _) | (with_reducible refine Kd.C_drew ?_))); (case side4 => exact HC0_3.out); (case side5 => repeat (first | exact (Kd.C_below HR0_4.out HB.out) | (with_reducible refine Kd.C_alloc ?_ _) | (with_reducible refine Kd.C_drewN ?_ _) | (with_reducible refine Kd.C_drew ?_))); (case side6 => exact HC0_4.out); (case side7 => repeat (first | exact (Kd.C_below HR0_5.out HB.out) | (with_reducible refine Kd.C_alloc ?_ _) | (with_reducible refine Kd.C_drewN ?_ _) | (with_reducible refine Kd.C_drew ?_))); (case side8 => exact HC0_5.out); rintro e w23 ⟨v345, rfl, ho0, hb⟩; refine ⟨_, rfl, ?_⟩; have n0_ := Aside0.mk (Kd.R_below (by (with_reducible repeat (first | apply Kd.R_alloc | apply Kd.R_drewN | apply Kd.R_drew)); exact HO_3.out) hb); have n1_ := Aside0.mk (Kd.R_lower ho0 (below_size (by repeat (first | (with_reducible first | exact HB.out | apply below_alloc | apply pw_below_drewN | apply below_drew1 | refine below_set ?_ GE339.out) | exact HB.out)))); have n2_ := Aside0.mk (blk_below (g := gb339) (o := .cells #[.string a0_0, .slice A0_1 l0_1.length c0_1, .string a0_2, .slice A0_3 l0_3.length c0_3, .slice A0_4 l0_4.length c0_4, .slice A0_5 l0_5.length c0_5] 26 (0, 0)) (by (with_reducible repeat (first | refine blk_drewN ?_ _ | refine blk_drew ?_ | refine blk_alloc ?_ _)); exact BK339.out) hb); have n3_ := Aside0.mk (below_step (by repeat (first | (with_reducible first | exact HB.out | apply below_alloc | apply pw_below_drewN | apply below_drew1 | refine below_set ?_ GE339.out) | exact HB.out)) hb); clear HO_3; clear BK339; clear HB; have HO_3 := n0_; have HO346 := n1_; have BK339 := n2_; have HB := n3_; clear n0_ n1_ n2_ n3_; (try clear hb); (try clear hb2); (try clear hk); (try clear hi); (try clear ho0)))
           go_loopg [7] k2 (fun kq v7 w' => ∃ (x3_3 : List Bool) (x7_3 : Int), v7 = .int .i64 x7_3 ∧ Aside0 (truantref09_Reached.l2 kq x3_3 x4_1 x5_2 t344 x7_3 a0_0 l0_1 a0_2 l0_3 l0_4 l0_5 = some r) ∧ Aside0 (kq ≤ k2) ∧ Aside0 (Kd.R Kd.bool 4 w' w.heap.size (fun _ => True) (.slice (some ⟨go11, 0, none⟩) x3_2.length co16) x3_3) ∧ Aside0 (Kd.R (Kd.int .i64) 3 w' w.heap.size (fun _ => True) v345 t344) ∧ Aside0 (w'.heap[gb339]? = some (.cells #[.string a0_0, (.slice A0_1 l0_1.length c0_1), .string a0_2, (.slice A0_3 l0_3.length c0_3), (.slice A0_4 l0_4.length c0_4), (.slice A0_5 l0_5.length c0_5)] 26 (0, 0))) ∧ Aside0 (Below w.heap.size w w'))
           case atStart => exact ⟨(x3_2), (0), (by first | rfl | (simp; done) | (simp [*]; done)), H', ⟨Nat.le_refl _⟩, ⟨by (try simp only [hl3_1]); (try simp only [hl3_2]); (with_reducible repeat (first | apply Kd.R_alloc | apply Kd.R_drewN | apply Kd.R_drew)); exact HO_3.out⟩, ⟨by (try simp only [hl3_1]); (try simp only [hl3_2]); (with_reducible repeat (first | apply Kd.R_alloc | apply Kd.R_drewN | apply Kd.R_drew)); exact HO346.out⟩, ⟨by (try simp only [hl3_1]); (try simp only [hl3_2]); (with_reducible repeat (first | refine blk_drewN ?_ _ | refine blk_drew ?_ | refine blk_alloc ?_ _)); exact BK339.out⟩, ⟨by repeat (first | (with_reducible first | exact HB.out | apply below_alloc | apply pw_below_drewN | apply below_drew1 | refine below_set ?_ GE339.out) | exact HB.out)⟩⟩
           case round =>
            clear H'
            try clear c1
            try clear p1
            try clear q1
            try clear hx1
            try clear qi1
            try clear hf1
            try clear c2
            try clear c2b0
            try clear c2b1
            try clear p2
            try clear c3
            try clear c3b0
            try clear c3b1
            try clear c4
            try clear c4b0
            try clear c4b1
            try clear c4b2
            try clear c10
            try clear c10b0
            try clear c10b1
            try clear p11
            try clear q11
            try clear hx11
            try clear qi11
            try clear hf11
            try clear c18
            try clear c19
            try clear c19b0
            try clear c20
            try clear c20b0
            try clear c21
            try clear hcz13_0
            try clear hcz13_1
            try clear hcz13_2
            try clear hcz13_3
            try clear hcz13_4
            try clear hcz13_5
            try clear hcz22_0
            try clear hcz22_1
            try clear hcz22_2
            try clear hcz22_3
            try clear hcz22_4
            try clear hcz22_5
            try clear hcz6_0
            try clear hcz6_1
            try clear hcz6_2
            try clear hcz6_3
            try clear hcz6_4
            try clear hcz6_5
            try clear hfz13_0
            try clear hfz13_1
            try clear hfz13_2
            try clear hfz13_3
            try clear hfz13_4
            try clear hfz13_5
            try clear hfz22_0
            try clear hfz22_1
            try clear hfz22_2
            try clear hfz22_3
            try clear hfz22_4
            try clear hfz22_5
            try clear hfz6_0
            try clear hfz6_1
            try clear hfz6_2
            try clear hfz6_3
            try clear hfz6_4
            try clear hfz6_5
            try clear hx11_0
            try clear p1
            try clear p11
            try clear p2
            try clear q1
            try clear q11
            obtain ⟨x3_3, x7_3, rfl, HA, HK3, HO_3, HO_6, BK339, HB⟩ := hrel
            have hl3_3 := (Kd.R_reads' HO_3.out).1
            rw [hl3_3] at HO_3
            (try simp only [hl3_3])
            (try simp only [hl3_3] at BK339)
            (try simp only [hl3_3] at HO_6)
            cases gk with
            | zero => exact absurd HA.out (by simp [truantref09_Reached.l2])
            | succ k3 =>
             have H := HA.out
             clear HA
             simp only [truantref09_Reached.l2] at H
             by_cases c24 : 0 ≤ x5_2
             ·rw [if_pos c24] at H
              have c24b0 : decide (0 ≤ x5_2) = true := decide_eq_true c24
              clear c24
              by_cases c25 : x5_2 < (x3_3.length : Int)
              ·rw [if_pos c25] at H
               have c25b0 : decide (x5_2 < (x3_3.length : Int)) = true := decide_eq_true c25
               clear c25
               obtain ⟨bq26, hbq26⟩ : ∃ b_ : Bool, b_ = (rdOf false x3_3 x5_2) := ⟨_, rfl⟩
               replace H : (if bq26 = true then (if x7_3 < (t344.length : Int) then (if 0 ≤ x7_3 then (if 0 ≤ (rd t344 x7_3) then (if (rd t344 x7_3) < (x3_3.length : Int) then (truantref09_Reached.l2 k3 (x3_3.set ((rd t344 x7_3) : Int).toNat true) x4_1 x5_2 t344 (wrap64 (x7_3 + 1)) a0_0 l0_1 a0_2 l0_3 l0_4 l0_5) else (none)) else (none)) else (none)) else (truantref09_Reached.l1 k3 x3_3 x4_1 (wrap64 (x5_2 + 1)) a0_0 l0_1 a0_2 l0_3 l0_4 l0_5)) else (truantref09_Reached.l1 k3 x3_3 x4_1 (wrap64 (x5_2 + 1)) a0_0 l0_1 a0_2 l0_3 l0_4 l0_5)) = some r := by rw [← hbq26] at H; exact H
               have Nbq26 := Aside0.mk hbq26
               clear hbq26
               by_cases c27 : bq26 = true
               ·subst c27
                have H1 : (if x7_3 < (t344.length : Int) then (if 0 ≤ x7_3 then (if 0 ≤ (rd t344 x7_3) then (if (rd t344 x7_3) < (x3_3.length : Int) then (truantref09_Reached.l2 k3 (x3_3.set ((rd t344 x7_3) : Int).toNat true) x4_1 x5_2 t344 (wrap64 (x7_3 + 1)) a0_0 l0_1 a0_2 l0_3 l0_4 l0_5) else (none)) else (none)) else (none)) else (truantref09_Reached.l1 k3 x3_3 x4_1 (wrap64 (x5_2 + 1)) a0_0 l0_1 a0_2 l0_3 l0_4 l0_5)) = some r := by rw [if_pos rfl] at H; exact H
                clear H
                have H := H1
                clear H1
                by_cases c28 : x7_3 < (t344.length : Int)
                ·rw [if_pos c28] at H
                 have c28b0 : decide (x7_3 < (t344.length : Int)) = true := decide_eq_true c28
                 clear c28
                 by_cases c29 : 0 ≤ x7_3
                 ·rw [if_pos c29] at H
                  have c29b0 : decide (0 ≤ x7_3) = true := decide_eq_true c29
                  clear c29
                  by_cases c30 : 0 ≤ (rd t344 x7_3)
                  ·rw [if_pos c30] at H
                   have c30b0 : decide (0 ≤ (rd t344 x7_3)) = true := decide_eq_true c30
                   clear c30
                   by_cases c31 : (rd t344 x7_3) < (x3_3.length : Int)
                   ·rw [if_pos c31] at H
                    have c31b0 : decide ((rd t344 x7_3) < (x3_3.length : Int)) = true := decide_eq_true c31
                    clear c31
                    obtain ⟨y349, hy349⟩ : ∃ y_ : List Bool, y_ = (x3_3.set ((rd t344 x7_3) : Int).toNat true) := ⟨_, rfl⟩
                    replace H : (truantref09_Reached.l2 k3 y349 x4_1 x5_2 t344 (wrap64 (x7_3 + 1)) a0_0 l0_1 a0_2 l0_3 l0_4 l0_5) = some r := by first | (rw [hy349]; with_reducible exact H) | (have H2_ := (Option.bind_some _ _).symm.trans H; rw [hy349]; with_reducible exact H2_) | (have H2_ := (Option.bind_some _ _).symm.trans H; with_reducible exact H2_) | with_reducible exact H | (rw [hy349]; exact H) | exact H
                    have Ny349 := Aside0.mk hy349
                    clear hy349
                    have H' := Aside0.mk H
                    clear H
                    have p347 : 0 ≤ (x5_2 : Int) := of_decide_eq_true (by first | (with_reducible assumption) | assumption)
                    have q347 : x5_2 < (x3_3.length : Int) := of_decide_eq_true (by first | (with_reducible assumption) | assumption)
                    obtain ⟨ad347, e347, hx347_0⟩ := Kd.at_bool (Kd.R_reads' HO_3.out).2.2 x5_2 p347 q347
                    (try rw [← Nbq26.out] at hx347_0)
                    obtain rfl : (⟨go11, 0, none⟩ : Addr) = ad347 := (by injection e347)
                    (first | simp only [add_plain] at hx347_0 | simp only [add_at] at hx347_0 | simp only [Addr.add, Nat.zero_add] at hx347_0 | skip)
                    replace p347 := eq_true p347
                    replace q347 := eq_true q347
                    obtain ⟨Ao33, co33, eo33⟩ := Kd.R_slice HO_6.out
                    subst eo33
                    have p348 : 0 ≤ (x7_3 : Int) := of_decide_eq_true (by first | (with_reducible assumption) | assumption)
                    have q348 : x7_3 < (t344.length : Int) := of_decide_eq_true (by first | (with_reducible assumption) | assumption)
                    obtain ⟨ad348, e348, hx348_0⟩ := Kd.at_int (Kd.R_reads' HO_6.out).2.2 x7_3 p348 q348
                    cases e348
                    replace p348 := eq_true p348
                    replace q348 := eq_true q348
                    have p32 : 0 ≤ ((rd t344 x7_3) : Int) := of_decide_eq_true (by first | (with_reducible assumption) | assumption)
                    have q32 : ((rd t344 x7_3) : Int) < ((x3_3.length : Int) : Int) := of_decide_eq_true (by first | (with_reducible assumption) | assumption)
                    obtain ⟨hx32_0, hf32_0⟩ := Kd.R_celln false HO_3.out ((rd t344 x7_3) : Int) p32 q32
                    replace p32 := eq_true p32
                    replace q32 := eq_true q32
                    have HP34 := Kd.R_putg HO_3.out ((rd t344 x7_3) : Int) true
                    go_wp2_with (first | ((with_reducible refine gate_store (t := 4) (p := 50) rfl ?_); refine store_event (t := 4) (p := 50) (v := ?vo_w35) (w1 := (wr.setCell ⟨go11, ((rd t344 x7_3) : Int).toNat, none⟩ (.bool true))) ?hg ?ho ?hn ?hr ?_; (case ho => rfl); (case hg => rfl); (case hn => rfl); (case hr => first | (go_simp; done) | (go_simp; rfl)); intro w35 hw; have hg : wr.grownBy w35 (some go11) := (by rw [hw]; exact HP34.2); have hp_ : Kd.R Kd.bool 4 w35 w.heap.size (fun _ => True) (.slice (some ⟨go11, 0, none⟩) x3_3.length co16) y349 := (by rw [hw, Ny349.out]; exact HP34.1); clear HP34; have n0_ := Aside0.mk (hp_); have n1_ := Aside0.mk (Kd.R_over' (v := (.slice (some ⟨go11, 0, none⟩) x3_3.length co16)) (by (with_reducible repeat (first | apply Kd.R_alloc | apply Kd.R_drewN | apply Kd.R_drew)); exact HO_6.out) (Kd.R_typed HO_3.out) (by decide) hg); have n2_ := Aside0.mk (blk_grown (g := gb339) (o := .cells #[.string a0_0, .slice A0_1 l0_1.length c0_1, .string a0_2, .slice A0_3 l0_3.length c0_3, .slice A0_4 l0_4.length c0_4, .slice A0_5 l0_5.length c0_5] 26 (0, 0)) (by (with_reducible repeat (first | refine blk_drewN ?_ _ | refine blk_drew ?_ | refine blk_alloc ?_ _)); exact BK339.out) hg (Kd.R_ne HO_3.out BK339.out (by decide))); have n3_ := Aside0.mk ((by rw [hw]; exact below_set (HB.out) GB11.out : Below w.heap.size w w35)); clear HO_3; clear HO_6; clear BK339; clear HB; have HO_3 := n0_; have HO_6 := n1_; have BK339 := n2_; have HB := n3_; clear n0_ n1_ n2_ n3_; clear hg hw hp_))
                    (try simp only [← hl3_3])
                    go_roundg k3
                    case measure => have := HK1.out; have := HK2.out; have := HK3.out; omega
                    case rel => exact ⟨(y349), (wrap64 (x7_3 + 1)), (by first | rfl | (simp; done) | (simp [*]; done)), H', ⟨by have := HK1.out; have := HK2.out; have := HK3.out; omega⟩, ⟨by (try simp only [hl3_1]); (try simp only [hl3_2]); (try simp only [hl3_3]); (with_reducible repeat (first | apply Kd.R_alloc | apply Kd.R_drewN | apply Kd.R_drew)); exact HO_3.out⟩, ⟨by (try simp only [hl3_1]); (try simp only [hl3_2]); (try simp only [hl3_3]); (with_reducible repeat (first | apply Kd.R_alloc | apply Kd.R_drewN | apply Kd.R_drew)); exact HO_6.out⟩, ⟨by (try simp only [hl3_1]); (try simp only [hl3_2]); (try simp only [hl3_3]); (with_reducible repeat (first | refine blk_drewN ?_ _ | refine blk_drew ?_ | refine blk_alloc ?_ _)); exact BK339.out⟩, ⟨by repeat (first | (with_reducible first | exact HB.out | apply below_alloc | apply pw_below_drewN | apply below_drew1 | refine below_set ?_ GE339.out) | exact HB.out)⟩⟩
                   ·rw [if_neg c31] at H
                    exact absurd H (by simp)
                  ·rw [if_neg c30] at H
                   exact absurd H (by simp)
                 ·rw [if_neg c29] at H
                  exact absurd H (by simp)
                ·rw [if_neg c28] at H
                 have c28b0 : decide (x7_3 < (t344.length : Int)) = false := decide_eq_false c28
                 clear c28
                 have H' := Aside0.mk H
                 clear H
                 have p347 : 0 ≤ (x5_2 : Int) := of_decide_eq_true (by first | (with_reducible assumption) | assumption)
                 have q347 : x5_2 < (x3_3.length : Int) := of_decide_eq_true (by first | (with_reducible assumption) | assumption)
                 obtain ⟨ad347, e347, hx347_0⟩ := Kd.at_bool (Kd.R_reads' HO_3.out).2.2 x5_2 p347 q347
                 (try rw [← Nbq26.out] at hx347_0)
                 obtain rfl : (⟨go11, 0, none⟩ : Addr) = ad347 := (by injection e347)
                 (first | simp only [add_plain] at hx347_0 | simp only [add_at] at hx347_0 | simp only [Addr.add, Nat.zero_add] at hx347_0 | skip)
                 replace p347 := eq_true p347
                 replace q347 := eq_true q347
                 obtain ⟨Ao36, co36, eo36⟩ := Kd.R_slice HO_6.out
                 subst eo36
                 go_wp2
                 (try simp only [← hl3_2, ← hl3_3])
                 go_roundg k3
                 case measure => have := HK1.out; have := HK2.out; have := HK3.out; omega
                 case rel => exact ⟨(x3_3), (wrap64 (x5_2 + 1)), (by first | rfl | (simp; done) | (simp [*]; done)), H', ⟨by have := HK1.out; have := HK2.out; have := HK3.out; omega⟩, ⟨by (try simp only [hl3_1]); (try simp only [hl3_2]); (try simp only [hl3_3]); (with_reducible repeat (first | apply Kd.R_alloc | apply Kd.R_drewN | apply Kd.R_drew)); exact HO_3.out⟩, ⟨by (try simp only [hl3_1]); (try simp only [hl3_2]); (try simp only [hl3_3]); (with_reducible repeat (first | refine blk_drewN ?_ _ | refine blk_drew ?_ | refine blk_alloc ?_ _)); exact BK339.out⟩, ⟨by repeat (first | (with_reducible first | exact HB.out | apply below_alloc | apply pw_below_drewN | apply below_drew1 | refine below_set ?_ GE339.out) | exact HB.out)⟩⟩
               ·replace c27 := Bool.eq_false_iff.mpr c27
                subst c27
                have H1 : (truantref09_Reached.l1 k3 x3_3 x4_1 (wrap64 (x5_2 + 1)) a0_0 l0_1 a0_2 l0_3 l0_4 l0_5) = some r := by rw [if_neg (show ¬ (false = true) by decide)] at H; exact H
                clear H
                have H := H1
                clear H1
                have H' := Aside0.mk H
                clear H
                have p347 : 0 ≤ (x5_2 : Int) := of_decide_eq_true (by first | (with_reducible assumption) | assumption)
                have q347 : x5_2 < (x3_3.length : Int) := of_decide_eq_true (by first | (with_reducible assumption) | assumption)
                obtain ⟨ad347, e347, hx347_0⟩ := Kd.at_bool (Kd.R_reads' HO_3.out).2.2 x5_2 p347 q347
                (try rw [← Nbq26.out] at hx347_0)
                obtain rfl : (⟨go11, 0, none⟩ : Addr) = ad347 := (by injection e347)
                (first | simp only [add_plain] at hx347_0 | simp only [add_at] at hx347_0 | simp only [Addr.add, Nat.zero_add] at hx347_0 | skip)
                replace p347 := eq_true p347
                replace q347 := eq_true q347
                go_wp2
                (try simp only [← hl3_2, ← hl3_3])
                go_roundg k3
                case measure => have := HK1.out; have := HK2.out; have := HK3.out; omega
                case rel => exact ⟨(x3_3), (wrap64 (x5_2 + 1)), (by first | rfl | (simp; done) | (simp [*]; done)), H', ⟨by have := HK1.out; have := HK2.out; have := HK3.out; omega⟩, ⟨by (try simp only [hl3_1]); (try simp only [hl3_2]); (try simp only [hl3_3]); (with_reducible repeat (first | apply Kd.R_alloc | apply Kd.R_drewN | apply Kd.R_drew)); exact HO_3.out⟩, ⟨by (try simp only [hl3_1]); (try simp only [hl3_2]); (try simp only [hl3_3]); (with_reducible repeat (first | refine blk_drewN ?_ _ | refine blk_drew ?_ | refine blk_alloc ?_ _)); exact BK339.out⟩, ⟨by repeat (first | (with_reducible first | exact HB.out | apply below_alloc | apply pw_below_drewN | apply below_drew1 | refine below_set ?_ GE339.out) | exact HB.out)⟩⟩
              ·rw [if_neg c25] at H
               exact absurd H (by simp)
             ·rw [if_neg c24] at H
              exact absurd H (by simp)
          ·rw [if_neg c20] at H
           have c20b0 : decide (x5_2 < (x3_2.length : Int)) = false := decide_eq_false c20
           clear c20
           have H' := Aside0.mk H
           clear H
           go_wp2
           (try simp only [← hl3_1, ← hl3_2])
           go_roundg k2
           case measure => have := HK1.out; have := HK2.out; omega
           case rel => exact ⟨(x3_2), (wrap64 (x4_1 + 1)), (by first | rfl | (simp; done) | (simp [*]; done)), H', ⟨by have := HK1.out; have := HK2.out; omega⟩, ⟨by (try simp only [hl3_1]); (try simp only [hl3_2]); (with_reducible repeat (first | apply Kd.R_alloc | apply Kd.R_drewN | apply Kd.R_drew)); exact HO_3.out⟩, ⟨by (try simp only [hl3_1]); (try simp only [hl3_2]); (with_reducible repeat (first | refine blk_drewN ?_ _ | refine blk_drew ?_ | refine blk_alloc ?_ _)); exact BK339.out⟩, ⟨by repeat (first | (with_reducible first | exact HB.out | apply below_alloc | apply pw_below_drewN | apply below_drew1 | refine below_set ?_ GE339.out) | exact HB.out)⟩⟩
       ·rw [if_neg c19] at H
        have c19b0 : decide (x4_1 < (x3_1.length : Int)) = false := decide_eq_false c19
        clear c19
        obtain rfl := Option.some.inj H
        go_wp2
        go_ret
        exact ⟨_, by first | rfl | (simp [errW_none, errW_some] <;> rfl) | (simp [*, errW_none, errW_some] <;> rfl), by (with_reducible repeat (first | apply Kd.R_alloc | apply Kd.R_drewN | apply Kd.R_drew)); exact HO_3.out, by repeat (first | (with_reducible first | exact HB.out | apply below_alloc | apply pw_below_drewN | apply below_drew1 | refine below_set ?_ GE339.out) | exact HB.out)⟩
    ·rw [if_neg c10] at H
     exact absurd H (by simp)
  ·rw [if_neg c3] at H
   exact absurd H (by simp)
 ·rw [if_neg c2] at H
  exact absurd H (by simp)

end Go.Proofs.Ytclhjalgflebfaa.Q

/- Flow, plain law: what is reached, round by round as by the walk. -/

namespace Go.Proofs.Ytclhjalgflebfaa.Q
open Go.RowKit Go.Proofs.YtclhjalgflebfaaW.PrintWords Go.Proofs.YtclhjalgflebfaaW.PrintLast Go.Proofs.YtclhjalgflebfaaW.PrintMore
set_option linter.unusedVariables false
set_option linter.unusedSimpArgs false
theorem hasR_none (n : Nat) (x : Int) : ¬ hasR (List.replicate n false) x := by
 rintro ⟨h0, h1, h2⟩
 unfold rdOf at h2
 rw [getD_at _ _ (by rw [List.length_replicate] at h1 ⊢; omega)] at h2
 simp at h2
theorem unseen_none (n : Nat) : unseen (List.replicate n false) = n := by simp [unseen]
theorem walk_facts (l : List S40) (hl : l.length < LIMF) (hn : 0 < l.length) : ∃ s e, walkO l = some (s, e ++ [0]) ∧ Adds l (List.replicate l.length false) s [0] (e ++ [0]) ∧ ((nextOf l 0).foldlM (stepO l l.length) ((List.replicate l.length false).set 0 true, [])) = some (s, e) ∧ Adds l ((List.replicate l.length false).set 0 true) s (nextOf l 0) e := by
 obtain ⟨s', e, h1, h2, e', he, h3, h4⟩ := visit_adds l (l.length + 1) 0 (List.replicate l.length false) [] (by simp) (by omega) (by omega) (hasR_none _ _) (by rw [unseen_none]; omega) (by rw [unseen_none]; simpa using hl)
 subst he
 refine ⟨s', e', ?_, h2, ?_, ?_⟩
 ·unfold walkO
  rw [if_pos hl, if_neg (by omega)]
  simpa using h1
 ·simpa using h3
 ·simpa using h4
section
variable (a0 : ByteArray) (l1 : List ByteArray) (a2 : ByteArray) (l3 : List ByteArray) (l4 : List S58) (l : List S40) (hl : l.length ≤ 1099511627776)
include hl
end
end Go.Proofs.Ytclhjalgflebfaa.Q

