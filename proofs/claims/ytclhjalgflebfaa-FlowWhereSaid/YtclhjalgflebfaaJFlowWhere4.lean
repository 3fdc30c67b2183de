/- What the row of FlowWhere rests on, part 4: contracts of the functions that it reaches, and the plain law. -/
import Derived.Test.YtclhjalgflebfaaJFlowWhere3
/- How an argument of a type reads: out of the form's reading comes the value that the printed walks take. -/
namespace Go.Proofs.Ytclhjalgflebfaa.Q
open Go.RowKit Go.Proofs.YtclhjalgflebfaaW.PrintWords Go.Proofs.YtclhjalgflebfaaW.PrintLast Go.Proofs.YtclhjalgflebfaaW.PrintMore
set_option linter.unusedVariables false
set_option linter.unusedSimpArgs false
/-- What reads at type t reads as a value of kind K, of which Q holds. -/
structure Opens {α : Type} (P : Program) (t : TypeId) (K : Kd α) (Q : α → Prop) : Prop where
 out : ∀ {H : Type} {enc : TypeId × Value → H} {W : World} {base : Nat} {sp : Nat → Bool} {held : Bool} {fuel : Nat} {cs : List Value} {x : DataW H × List MemPlace},
  (∀ n ∈ x.1.weights P t, n ≤ reachBytes) → DataW.trod enc P W base sp held fuel t cs = some x → ∃ y, K.K W y cs ∧ Q y
section
variable {P : Program}
theorem opens_string {t : TypeId} (ht : P.underlying t = some .string) : Opens P t Kd.string (fun s => s.size ≤ 140737488351232) := by
 constructor
 intro H enc W base sp held fuel cs x hw h
 obtain ⟨s, rfl, rfl, hs⟩ : ∃ s : ByteArray, cs = [.string s] ∧ x = (.lit (.string s.data.toList), []) ∧ s.size ≤ maxLen := by
  cases fuel with
  | zero => simp [DataW.trod] at h
  | succ n =>
   unfold DataW.trod at h
   rw [ht] at h
   split at h <;> simp_all
 refine ⟨s, rfl, ?_⟩
 have := hw s.data.toList.length (by simp [DataW.weights])
 rw [Array.length_toList] at this
 exact this
theorem opens_int {t : TypeId} {q : IntKind} (ht : P.underlying t = some (.int q)) : Opens P t (Kd.int q) (fun n => (Lit.int q n).wf = true) := by
 constructor
 intro H enc W base sp held fuel cs x hw h
 obtain ⟨n, rfl, hs⟩ : ∃ n : Int, cs = [.int q n] ∧ (Lit.int q n).wf = true := by
  cases fuel with
  | zero => simp [DataW.trod] at h
  | succ n =>
   unfold DataW.trod at h
   rw [ht] at h
   split at h <;> simp_all
 exact ⟨n, rfl, hs⟩
theorem weights_all {H : Type} {e : TypeId} : ∀ {ds : List (DataW H)} {d : DataW H}, d ∈ ds → ∀ n ∈ d.weights P e, n ∈ DataW.weightsAll P e ds
 | d0 :: ds, d, hd, n, hn => by
  simp only [DataW.weightsAll, List.mem_append]
  rcases List.mem_cons.mp hd with rfl | h
  ·exact .inl hn
  ·exact .inr (weights_all h n hn)
theorem choose_list {α : Type} {p : Nat → α → Prop} : ∀ {n : Nat}, (∀ i, i < n → ∃ y, p i y) → ∃ ys : List α, ys.length = n ∧ ∀ i y, ys[i]? = some y → p i y
 | 0, _ => ⟨[], rfl, fun i y h => by simp at h⟩
 | n + 1, h => by
  obtain ⟨ys, hl, hy⟩ := choose_list (n := n) (fun i hi => h i (by omega))
  obtain ⟨y, hp⟩ := h n (by omega)
  refine ⟨ys ++ [y], by simp [hl], fun i z hz => ?_⟩
  by_cases hi : i < n
  ·rw [List.getElem?_append_left (by omega)] at hz
   exact hy i z hz
  ·have := (List.getElem?_eq_some_iff.mp hz).1
   simp at this
   have e : i = n := by omega
   subst e
   rw [List.getElem?_append_right (by omega)] at hz
   simp [hl] at hz
   subst hz
   exact hp
theorem opens_slice {α : Type} {t e : TypeId} {K : Kd α} {Q : α → Prop} (he : Opens P e K Q) (ht : P.underlying t = some (.slice e)) (hc : P.cellsOf e = K.sz) (bytes : Nat) (hb : P.bytesOf e = bytes) :
  Opens P t (Kd.slice e K) (fun l => l.length * bytes ≤ 140737488351232 ∧ ∀ x ∈ l, Q x) := by
 constructor
 intro H enc W base sp held fuel cs x hw h
 rcases Deep.open_slice ht h with ⟨rfl, rfl⟩ | ⟨a, len, cap, m, n, D, Pl, rfl, _, hl, hm, hmm, rfl, hel⟩
 ·exact ⟨[], ⟨none, 0, rfl, Nat.le_refl _, Kd.C_nil K W⟩, by simp, by simp⟩
 ·have hlm : len ≤ m := by rw [hmm]; split <;> omega
  have hw' : ∀ i, i < len → ∀ k ∈ (D i).weights P e, k ≤ reachBytes := fun i hi k hk => hw k (by
   simp only [DataW.weights, ht, List.mem_cons, List.mem_append]
   exact .inr (.inl (weights_all (List.mem_map.mpr ⟨i, by simpa using hi, rfl⟩) k hk)))
  obtain ⟨ys, hys, hY⟩ := choose_list (n := len) (p := fun i y => (∃ c, c.length = K.sz ∧ K.K W y c ∧ ∀ j u, c[j]? = some u → W.cell? (a.add (i * K.sz + j)) = some u) ∧ Q y) (fun i hi => by
   obtain ⟨c, h1, h2⟩ := hel i (by omega)
   obtain ⟨y, hy, hq⟩ := he.out (hw' i hi) h2
   obtain ⟨_, h3, h4⟩ := World.cells?_some h1
   rw [hc] at h3 h4
   refine ⟨y, ⟨c, h3, hy, fun j u hu => ?_⟩, hq⟩
   have hj : j < K.sz := by
    have := (List.getElem?_eq_some_iff.mp hu).1
    omega
   have h5 := h4 j hj
   rw [Addr.add_add] at h5
   rw [h5, hu])
  have hlen : len ≤ maxLen := by omega
  refine ⟨ys, ⟨some a, cap, by rw [hys], by omega, rfl, by rw [hys]; unfold maxLen at hlen; omega, fun _ => ⟨a, rfl, fun j p hj => (hY j p hj).1⟩⟩, ?_, ?_⟩
  ·have := hw ((((List.range len).map D).length + ((List.range (m - len)).map fun j => D (len + j)).length) * P.bytesOf e) (by simp [DataW.weights, ht])
   rw [hb] at this
   simp only [List.length_map, List.length_range] at this
   have h2 : len * bytes ≤ (len + (m - len)) * bytes := Nat.mul_le_mul_right _ (by omega)
   rw [hys]
   unfold reachBytes at this
   omega
  ·intro x hx
   obtain ⟨i, hi, rfl⟩ := List.mem_iff_getElem.mp hx
   exact (hY i _ (List.getElem?_eq_getElem hi)).2
/-- The fields from one on. -/
structure OpensF {α : Type} (P : Program) (fs : List Field) (off : Nat) (K : Kd α) (Q : α → Prop) : Prop where
 out : ∀ {H : Type} {enc : TypeId × Value → H} {W : World} {base : Nat} {sp : Nat → Bool} {held : Bool} {fuel : Nat} {cs : List Value} {xs : List (DataW H × List MemPlace)},
  cs.length = off + K.sz → (∀ n ∈ DataW.weightsEach P (fs.map (·.type)) (xs.map (·.1)), n ≤ reachBytes) → (fs.mapM fun f => DataW.trod enc P W base sp held fuel f.type ((cs.drop f.offset).take (P.cellsOf f.type))) = some xs → ∃ y, K.K W y (cs.drop off) ∧ Q y
theorem opensF_last {α : Type} {f : Field} {off t : Nat} {K : Kd α} {Q : α → Prop} (h : Opens P t K Q) (h0 : f.type = t) (hc : P.cellsOf t = K.sz) (ho : f.offset = off) : OpensF P [f] off K Q := by
 constructor
 intro H enc W base sp held fuel cs xs hl hw hm
 subst h0
 simp only [List.mapM_cons, List.mapM_nil, Option.pure_def, Option.bind_eq_bind, Option.bind_some] at hm
 obtain ⟨x, hx, hm⟩ := Option.bind_eq_some_iff.mp hm
 obtain rfl := Option.some.inj hm
 rw [hc, ho, List.take_of_length_le (by rw [List.length_drop]; omega)] at hx
 exact h.out (fun n hn => hw n (by simp [DataW.weightsEach, hn])) hx
theorem opensF_cons {α β : Type} {f : Field} {fs : List Field} {off t : Nat} {K : Kd α} {K1 : Kd β} {Q : α → Prop} {Q1 : β → Prop} (h : Opens P t K Q) (h0 : f.type = t) (hc : P.cellsOf t = K.sz) (ho : f.offset = off) (h1 : OpensF P fs (off + K.sz) K1 Q1) :
  OpensF P (f :: fs) off (Kd.pair K K1) (fun p => Q p.1 ∧ Q1 p.2) := by
 constructor
 intro H enc W base sp held fuel cs xs hl hw hm
 subst h0
 have hl : cs.length = off + (K.sz + K1.sz) := hl
 rw [List.mapM_cons] at hm
 simp only [Option.pure_def, Option.bind_eq_bind] at hm
 obtain ⟨x, hx, hm⟩ := Option.bind_eq_some_iff.mp hm
 obtain ⟨xs', hxs, hm⟩ := Option.bind_eq_some_iff.mp hm
 obtain rfl := Option.some.inj hm
 rw [hc, ho] at hx
 obtain ⟨y, hy, hq⟩ := h.out (fun n hn => hw n (by simp only [List.map_cons, DataW.weightsEach, List.mem_append]; exact .inl hn)) hx
 obtain ⟨z, hz, hq1⟩ := h1.out (by omega) (fun n hn => hw n (by simp only [List.map_cons, DataW.weightsEach, List.mem_append]; exact .inr hn)) hxs
 refine ⟨(y, z), ⟨(cs.drop off).take K.sz, cs.drop (off + K.sz), ?_, hy, hz⟩, hq, hq1⟩
 rw [← List.drop_drop, List.take_append_drop]
theorem opens_struct {α β : Type} {t : TypeId} {fs : Array Field} {K : Kd α} {Q : α → Prop} (ht : P.underlying t = some (.struct fs)) (h : OpensF P fs.toList 0 K Q) (hc : P.cellsOf t = K.sz) (g : β → α) (g' : α → β) (hg : ∀ y, g (g' y) = y) : Opens P t (Kd.iso K g) (fun x => Q (g x)) := by
 constructor
 intro H enc W base sp held fuel cs x hw hm
 cases fuel with
 | zero => simp [DataW.trod] at hm
 | succ n =>
  unfold DataW.trod at hm
  rw [ht] at hm
  simp only at hm
  split at hm
  ·rename_i hl
   obtain ⟨xs, hxs, rfl⟩ := Option.map_eq_some_iff.mp hm
   obtain ⟨y, hy, hq⟩ := h.out (cs := cs) (xs := xs) (by rw [hl, hc]; omega) (fun n hn => hw n (by simp only [DataW.weights, ht]; exact hn)) hxs
   exact ⟨g' y, by show K.K W (g (g' y)) cs; rw [hg]; simpa using hy, by show Q (g (g' y)); rw [hg]; exact hq⟩
  ·cases hm
theorem opens_array2 {α β : Type} {t e : TypeId} {K : Kd α} {Q : α → Prop} {k : Kd β} {WF : β → Prop} (mk : α → α → β) (g : β → α × α) (he : Opens P e K Q) (ht : P.underlying t = some (.array 2 e)) (hsz : K.sz = 1) (hce : P.cellsOf e = 1) (hct : P.cellsOf t = 2) (hk : k = Kd.iso (Kd.pair K K) g) (hg : ∀ x y, g (mk x y) = (x, y)) (hQ : ∀ x y, Q x → Q y → WF (mk x y)) : Opens P t k WF := by
 subst hk
 constructor
 intro H enc W base sp held fuel cs x hw hm
 obtain ⟨xs, m, rfl, rfl, hl, hn, hi⟩ := DataW.trod_array ht hm
 rw [hct] at hl
 have hwx : ∀ d, d ∈ xs.map (·.1) → ∀ n ∈ d.weights P e, n ≤ reachBytes := fun d hd n hn => hw n (by simp only [DataW.weights, ht]; exact weights_all hd n hn)
 obtain ⟨d0, d1, rfl⟩ : ∃ d0 d1, xs = [d0, d1] := by
  match xs, hn with
  | [a, b], _ => exact ⟨a, b, rfl⟩
 obtain ⟨c0, c1, rfl⟩ : ∃ c0 c1, cs = [c0, c1] := by
  match cs, hl with
  | [a, b], _ => exact ⟨a, b, rfl⟩
 have h0 := hi 0 (by omega)
 have h1 := hi 1 (by omega)
 rw [hce] at h0 h1
 obtain ⟨y0, hy0, q0⟩ := he.out (hwx d0.1 (by simp)) (show _ = some d0 from h0)
 obtain ⟨y1, hy1, q1⟩ := he.out (hwx d1.1 (by simp)) (show _ = some d1 from h1)
 refine ⟨mk y0 y1, ?_, hQ _ _ q0 q1⟩
 show (Kd.pair K K).K W (g (mk y0 y1)) [c0, c1]
 rw [hg]
 exact ⟨[c0], [c1], rfl, hy0, hy1⟩
theorem opens_struct' {α β : Type} {t : TypeId} {fs : Array Field} {K : Kd α} {Q : α → Prop} {k : Kd β} {WF : β → Prop} (g' : α → β) (g : β → α) (ht : P.underlying t = some (.struct fs)) (h : OpensF P fs.toList 0 K Q) (hc : P.cellsOf t = K.sz) (hk : k = Kd.iso K g) (hg : ∀ y, g (g' y) = y) (hQ : ∀ x, Q (g x) → WF x) : Opens P t k WF := by
 subst hk
 constructor
 intro H enc W base sp held fuel cs x hw hm
 obtain ⟨y, h1, h2⟩ := (opens_struct ht h hc g g' hg).out hw hm
 exact ⟨y, h1, hQ y h2⟩
end
end Go.Proofs.Ytclhjalgflebfaa.Q

namespace Go.Proofs.Ytclhjalgflebfaa.Q
open Go.RowKit Go.Proofs.YtclhjalgflebfaaW.PrintWords Go.Proofs.YtclhjalgflebfaaW.PrintLast Go.Proofs.YtclhjalgflebfaaW.PrintMore
set_option linter.unusedVariables false
set_option linter.unusedSimpArgs false

def WF58 (x : S58) : Prop := ((fun n : Int => (Lit.int .i64 n).wf = true) x.f0) ∧ ((fun s : ByteArray => s.size ≤ 140737488351232) x.f1) ∧ ((fun l : List Int => l.length * 8 ≤ 140737488351232 ∧ ∀ x ∈ l, (fun n : Int => (Lit.int .i64 n).wf = true) x) x.f2) ∧ ((fun n : Int => (Lit.int .i64 n).wf = true) x.f3) ∧ ((fun s : ByteArray => s.size ≤ 140737488351232) x.f4)
theorem opens58 : Opens Try.prog 58 k58 WF58 :=
 opens_struct' (fun p : (Int) × (ByteArray) × (List Int) × (Int) × (ByteArray) => (⟨p.1, p.2.1, p.2.2.1, p.2.2.2.1, p.2.2.2.2⟩ : S58)) (fun x : S58 => (x.f0, x.f1, x.f2, x.f3, x.f4)) Try.underlying58 (opensF_cons (opens_int Try.underlying3) rfl (by kernel_rfl) rfl (opensF_cons (opens_string Try.underlying9) rfl (by kernel_rfl) rfl (opensF_cons (opens_slice (opens_int Try.underlying3) Try.underlying34 (by kernel_rfl) 8 (by kernel_rfl)) rfl (by kernel_rfl) rfl (opensF_cons (opens_int Try.underlying3) rfl (by kernel_rfl) rfl (opensF_last (opens_string Try.underlying9) rfl (by kernel_rfl) rfl))))) (by kernel_rfl) rfl (fun _ => rfl) (fun _ h => h)
def WF38 (x : S38) : Prop := ((fun n : Int => (Lit.int .i64 n).wf = true) x.f0) ∧ ((fun n : Int => (Lit.int .i64 n).wf = true) x.f1)
theorem opens38 : Opens Try.prog 38 k38 WF38 :=
 opens_array2 (fun x y => (⟨x, y⟩ : S38)) (fun x : S38 => (x.f0, x.f1)) (opens_int Try.underlying3) Try.underlying38 rfl (by kernel_rfl) (by kernel_rfl) rfl (fun _ _ => rfl) (fun _ _ hx hy => ⟨hx, hy⟩)
def WF40 (x : S40) : Prop := ((fun l : List Int => l.length * 8 ≤ 140737488351232 ∧ ∀ x ∈ l, (fun n : Int => (Lit.int .i64 n).wf = true) x) x.f0) ∧ ((fun n : Int => (Lit.int .i64 n).wf = true) x.f1) ∧ ((fun n : Int => (Lit.int .i64 n).wf = true) x.f2) ∧ (WF38 x.f3)
theorem opens40 : Opens Try.prog 40 k40 WF40 :=
 opens_struct' (fun p : (List Int) × (Int) × (Int) × (S38) => (⟨p.1, p.2.1, p.2.2.1, p.2.2.2⟩ : S40)) (fun x : S40 => (x.f0, x.f1, x.f2, x.f3)) Try.underlying40 (opensF_cons (opens_slice (opens_int Try.underlying3) Try.underlying34 (by kernel_rfl) 8 (by kernel_rfl)) rfl (by kernel_rfl) rfl (opensF_cons (opens_int Try.underlying3) rfl (by kernel_rfl) rfl (opensF_cons (opens_int Try.underlying3) rfl (by kernel_rfl) rfl (opensF_last opens38 rfl (by kernel_rfl) rfl)))) (by kernel_rfl) rfl (fun _ => rfl) (fun _ h => h)
def WF26 (x : S26) : Prop := ((fun s : ByteArray => s.size ≤ 140737488351232) x.f0) ∧ ((fun l : List ByteArray => l.length * 16 ≤ 140737488351232 ∧ ∀ x ∈ l, (fun s : ByteArray => s.size ≤ 140737488351232) x) x.f1) ∧ ((fun s : ByteArray => s.size ≤ 140737488351232) x.f2) ∧ ((fun l : List ByteArray => l.length * 16 ≤ 140737488351232 ∧ ∀ x ∈ l, (fun s : ByteArray => s.size ≤ 140737488351232) x) x.f3) ∧ ((fun l : List (S58) => l.length * 72 ≤ 140737488351232 ∧ ∀ x ∈ l, WF58 x) x.f4) ∧ ((fun l : List (S40) => l.length * 56 ≤ 140737488351232 ∧ ∀ x ∈ l, WF40 x) x.f5)
theorem opens26 : Opens Try.prog 26 k26 WF26 :=
 opens_struct' (fun p : (ByteArray) × (List ByteArray) × (ByteArray) × (List ByteArray) × (List (S58)) × (List (S40)) => (⟨p.1, p.2.1, p.2.2.1, p.2.2.2.1, p.2.2.2.2.1, p.2.2.2.2.2⟩ : S26)) (fun x : S26 => (x.f0, x.f1, x.f2, x.f3, x.f4, x.f5)) Try.underlying26 (opensF_cons (opens_string Try.underlying9) rfl (by kernel_rfl) rfl (opensF_cons (opens_slice (opens_string Try.underlying9) Try.underlying22 (by kernel_rfl) 16 (by kernel_rfl)) rfl (by kernel_rfl) rfl (opensF_cons (opens_string Try.underlying9) rfl (by kernel_rfl) rfl (opensF_cons (opens_slice (opens_string Try.underlying9) Try.underlying22 (by kernel_rfl) 16 (by kernel_rfl)) rfl (by kernel_rfl) rfl (opensF_cons (opens_slice opens58 Try.underlying23 (by kernel_rfl) 72 (by kernel_rfl)) rfl (by kernel_rfl) rfl (opensF_last (opens_slice opens40 Try.underlying24 (by kernel_rfl) 56 (by kernel_rfl)) rfl (by kernel_rfl) rfl)))))) (by kernel_rfl) rfl (fun _ => rfl) (fun _ h => h)
end Go.Proofs.Ytclhjalgflebfaa.Q

namespace Go.Proofs.Ytclhjalgflebfaa.Q
open Go.RowKit Go.Proofs.YtclhjalgflebfaaW.PrintWords Go.Proofs.YtclhjalgflebfaaW.PrintLast Go.Proofs.YtclhjalgflebfaaW.PrintMore
set_option linter.unusedVariables false
set_option linter.unusedSimpArgs false
def FlowWhere.Pure : Prop := ∀ (a0_0 : ByteArray) (l0_1 : List ByteArray) (a0_2 : ByteArray) (l0_3 : List ByteArray) (l0_4 : List (S58)) (l0_5 : List (S40)), WF26 ⟨a0_0, l0_1, a0_2, l0_3, l0_4, l0_5⟩ → ∃ k, truantlaw09_FlowWhere.f k a0_0 l0_1 a0_2 l0_3 l0_4 l0_5 = some true
end Go.Proofs.Ytclhjalgflebfaa.Q

/- Small words on 'from some number of rounds on'. -/

namespace Go.Proofs.Ytclhjalgflebfaa.Q
open Go.RowKit Go.Proofs.YtclhjalgflebfaaW.PrintWords Go.Proofs.YtclhjalgflebfaaW.PrintLast Go.Proofs.YtclhjalgflebfaaW.PrintMore
set_option linter.unusedVariables false
set_option linter.unusedSimpArgs false
section
variable {α : Type}
theorem Ev.pos {c : Prop} [Decidable c] {A B : Nat → Option α} {r : α} (h : c) (k : Ev A r) : Ev (fun n => if c then A n else B n) r := Ev.congr (fun n => if_pos h) k
theorem Ev.neg {c : Prop} [Decidable c] {A B : Nat → Option α} {r : α} (h : ¬ c) (k : Ev B r) : Ev (fun n => if c then A n else B n) r := Ev.congr (fun n => if_neg h) k
theorem Ev.one {β : Type} {a : Option β} {b : β} {f : Nat → β → Option α} {r : α} (h : a = some b) (k : Ev (fun n => f n b) r) : Ev (fun n => a.bind (f n)) r := Ev.congr (fun n => by rw [h]; rfl) k
end
end Go.Proofs.Ytclhjalgflebfaa.Q

namespace Go.Proofs.Ytclhjalgflebfaa.Q
open Go.RowKit Go.Proofs.YtclhjalgflebfaaW.PrintWords Go.Proofs.YtclhjalgflebfaaW.PrintLast Go.Proofs.YtclhjalgflebfaaW.PrintMore
attribute [local go_sem] max2_int min2_int max_two min_two max_three min_three max_four min_four   -- for this text's walks alone
set_option linter.unusedVariables false
set_option linter.unusedSimpArgs false

/-! ### truantref09_Ahead: function 24 -/
mutual
def truantref09_Ahead.l0 : Nat → Int → List Int → Int → ByteArray → List ByteArray → ByteArray → List ByteArray → List (S58) → List (S40) → Option (List Int)
 | 0, _, _, _, _, _, _, _, _, _ => none
 | k + 1, x1, x5, x6, x384000, x384001, x384002, x384003, x384004, x384005 => if x6 < (x384005.length : Int) then ((truantref09_Next.f k x384000 x384001 x384002 x384003 x384004 x384005 x6).bind fun t387 => (truantref09_Ahead.l1 k x1 x5 x6 t387 0 x384000 x384001 x384002 x384003 x384004 x384005)) else (some x5)
def truantref09_Ahead.l1 : Nat → Int → List Int → Int → List Int → Int → ByteArray → List ByteArray → ByteArray → List ByteArray → List (S58) → List (S40) → Option (List Int)
 | 0, _, _, _, _, _, _, _, _, _, _, _ => none
 | k + 1, x1, x5, x6, x7, x8, x384000, x384001, x384002, x384003, x384004, x384005 => if x8 < (x7.length : Int) then (if 0 ≤ x8 then (if (rd x7 x8) = x1 then (if x5.length < 17592186044416 then (truantref09_Ahead.l1 k x1 (x5 ++ [x6]) x6 x7 (wrap64 (x8 + 1)) x384000 x384001 x384002 x384003 x384004 x384005) else (none)) else (truantref09_Ahead.l1 k x1 x5 x6 x7 (wrap64 (x8 + 1)) x384000 x384001 x384002 x384003 x384004 x384005)) else (none)) else (truantref09_Ahead.l0 k x1 x5 (wrap64 (x6 + 1)) x384000 x384001 x384002 x384003 x384004 x384005)
end
def truantref09_Ahead.f (k : Nat) (a0_0 : ByteArray) (l0_1 : List ByteArray) (a0_2 : ByteArray) (l0_3 : List ByteArray) (l0_4 : List (S58)) (l0_5 : List (S40)) (a1 : Int) : Option (List Int) := truantref09_Ahead.l0 k a1 (([] : List Int)) 0 a0_0 l0_1 a0_2 l0_3 l0_4 l0_5
theorem truantref09_Ahead.mono_l : ∀ k, (∀ y0 y1 y2 y3 y4 y5 y6 y7 y8, LeO (truantref09_Ahead.l0 k y0 y1 y2 y3 y4 y5 y6 y7 y8) (truantref09_Ahead.l0 (k + 1) y0 y1 y2 y3 y4 y5 y6 y7 y8)) ∧ (∀ y0 y1 y2 y3 y4 y5 y6 y7 y8 y9 y10, LeO (truantref09_Ahead.l1 k y0 y1 y2 y3 y4 y5 y6 y7 y8 y9 y10) (truantref09_Ahead.l1 (k + 1) y0 y1 y2 y3 y4 y5 y6 y7 y8 y9 y10))
 | 0 => ⟨fun _ _ _ _ _ _ _ _ _ r h => by simp [truantref09_Ahead.l0] at h, fun _ _ _ _ _ _ _ _ _ _ _ r h => by simp [truantref09_Ahead.l1] at h⟩
 | k + 1 => by
  obtain ⟨ih0, ih1⟩ := truantref09_Ahead.mono_l k
  refine ⟨?_, ?_⟩
  ·intro y0 y1 y2 y3 y4 y5 y6 y7 y8
   unfold truantref09_Ahead.l0
   repeat' first
   | (with_reducible exact ih0 _ _ _ _ _ _ _ _ _)
   | (with_reducible exact ih1 _ _ _ _ _ _ _ _ _ _ _)
   | (with_reducible exact truantref09_Next.mono _ _ _ _ _ _ _ _)
   | (with_reducible exact LeO.refl _)
   | (with_reducible exact LeO.none _)
   | (with_reducible refine LeO.ite ?_ ?_)
   | (with_reducible refine LeO.bind ?_ (fun _ => ?_))
   | exact ih0 _ _ _ _ _ _ _ _ _
   | exact ih1 _ _ _ _ _ _ _ _ _ _ _
   | exact truantref09_Next.mono _ _ _ _ _ _ _ _
   | exact LeO.none _
   | refine LeO.ite ?_ ?_
   | refine LeO.bind ?_ (fun _ => ?_)
  ·intro y0 y1 y2 y3 y4 y5 y6 y7 y8 y9 y10
   unfold truantref09_Ahead.l1
   repeat' first
   | (with_reducible exact ih0 _ _ _ _ _ _ _ _ _)
   | (with_reducible exact ih1 _ _ _ _ _ _ _ _ _ _ _)
   | (with_reducible exact truantref09_Next.mono _ _ _ _ _ _ _ _)
   | (with_reducible exact LeO.refl _)
   | (with_reducible exact LeO.none _)
   | (with_reducible refine LeO.ite ?_ ?_)
   | (with_reducible refine LeO.bind ?_ (fun _ => ?_))
   | exact ih0 _ _ _ _ _ _ _ _ _
   | exact ih1 _ _ _ _ _ _ _ _ _ _ _
   | exact truantref09_Next.mono _ _ _ _ _ _ _ _
   | exact LeO.none _
   | refine LeO.ite ?_ ?_
   | refine LeO.bind ?_ (fun _ => ?_)
theorem truantref09_Ahead.mono : ∀ a0 a1 a2 a3 a4 a5 a6 k, LeO (truantref09_Ahead.f k a0 a1 a2 a3 a4 a5 a6) (truantref09_Ahead.f (k + 1) a0 a1 a2 a3 a4 a5 a6) := by
 intro a0 a1 a2 a3 a4 a5 a6 k
 obtain ⟨ih0, ih1⟩ := truantref09_Ahead.mono_l k
 unfold truantref09_Ahead.f
 repeat' first
   | (with_reducible exact ih0 _ _ _ _ _ _ _ _ _)
   | (with_reducible exact ih1 _ _ _ _ _ _ _ _ _ _ _)
   | (with_reducible exact truantref09_Next.mono _ _ _ _ _ _ _ _)
   | (with_reducible exact LeO.refl _)
   | (with_reducible exact LeO.none _)
   | (with_reducible refine LeO.ite ?_ ?_)
   | (with_reducible refine LeO.bind ?_ (fun _ => ?_))
   | exact ih0 _ _ _ _ _ _ _ _ _
   | exact ih1 _ _ _ _ _ _ _ _ _ _ _
   | exact truantref09_Next.mono _ _ _ _ _ _ _ _
   | exact LeO.none _
   | refine LeO.ite ?_ ?_
   | refine LeO.bind ?_ (fun _ => ?_)
set_option maxHeartbeats 8000000 in
set_option maxRecDepth 100000 in
theorem truantref09_Ahead.calls (k : Nat) (a0_0 : ByteArray) (A0_1 : Option Addr) (c0_1 : Nat) (l0_1 : List ByteArray) (a0_2 : ByteArray) (A0_3 : Option Addr) (c0_3 : Nat) (l0_3 : List ByteArray) (A0_4 : Option Addr) (c0_4 : Nat) (l0_4 : List (S58)) (A0_5 : Option Addr) (c0_5 : Nat) (l0_5 : List (S40)) (a1 : Int) (r : List Int) (w : World) (hr0_1 : Kd.C Kd.string w A0_1 l0_1.length l0_1) (hc0_1 : l0_1.length ≤ c0_1) (hr0_3 : Kd.C Kd.string w A0_3 l0_3.length l0_3) (hc0_3 : l0_3.length ≤ c0_3) (hr0_4 : Kd.C k58 w A0_4 l0_4.length l0_4) (hc0_4 : l0_4.length ≤ c0_4) (hr0_5 : Kd.C k40 w A0_5 l0_5.length l0_5) (hc0_5 : l0_5.length ≤ c0_5) (h : truantref09_Ahead.f k a0_0 l0_1 a0_2 l0_3 l0_4 l0_5 a1 = some r) :
  Calls Try.prog 24 #[.agg #[.string a0_0, .slice A0_1 l0_1.length c0_1, .string a0_2, .slice A0_3 l0_3.length c0_3, .slice A0_4 l0_4.length c0_4, .slice A0_5 l0_5.length c0_5], .int .i64 a1] w fun e w' => ∃ v0_ : Value, e = .returned (v0_) ∧ Kd.R (Kd.int .i64) 3 w' w.heap.size (fun _ => True) v0_ r ∧ Below w.heap.size w w' := by
 have hu26 := Try.underlying26
 have HR0_1 := Aside0.mk hr0_1
 have HC0_1 := Aside0.mk hc0_1
 clear hr0_1 hc0_1
 have HR0_3 := Aside0.mk hr0_3
 have HC0_3 := Aside0.mk hc0_3
 clear hr0_3 hc0_3
 have HR0_4 := Aside0.mk hr0_4
 have HC0_4 := Aside0.mk hc0_4
 clear hr0_4 hc0_4
 have HR0_5 := Aside0.mk hr0_5
 have HC0_5 := Aside0.mk hc0_5
 clear hr0_5 hc0_5
 have HB := Aside0.mk (Below.refl w.heap.size w)
 have H : (truantref09_Ahead.l0 k a1 (([] : List Int)) 0 a0_0 l0_1 a0_2 l0_3 l0_4 l0_5) = some r := h
 clear h
 obtain ⟨y384, hy384⟩ : ∃ y_ : List Int, y_ = (([] : List Int)) := ⟨_, rfl⟩
 replace H : (truantref09_Ahead.l0 k a1 y384 0 a0_0 l0_1 a0_2 l0_3 l0_4 l0_5) = some r := by first | (rw [hy384]; with_reducible exact H) | (have H2_ := (Option.bind_some _ _).symm.trans H; rw [hy384]; with_reducible exact H2_) | (have H2_ := (Option.bind_some _ _).symm.trans H; with_reducible exact H2_) | with_reducible exact H | (rw [hy384]; exact H) | exact H
 have Ny384 := Aside0.mk hy384
 clear hy384
 have H' := Aside0.mk H
 clear H
 go_enter Try.func24, Try.ntmps24
 go_wp2_with (first | ((with_reducible refine gate_dst (N := 2) rfl ?_); refine box_event ?hg (N := 2) ?hd (cs := #[.string a0_0, .slice A0_1 l0_1.length c0_1, .string a0_2, .slice A0_3 l0_3.length c0_3, .slice A0_4 l0_4.length c0_4, .slice A0_5 l0_5.length c0_5]) (t := 26) ?hr ?_; (case hd => rfl); (case hg => rfl); (case hr => first | (go_simp; done) | (go_simp; rfl)); intro gb383 hg w3 hbox hb; have n0_ := Aside0.mk (below_step (by repeat (first | (with_reducible first | exact HB.out | apply below_alloc | apply pw_below_drewN | apply below_drew1) | exact HB.out)) hb); have n1_ := Aside0.mk (hbox); have n2_ := Aside0.mk ((by rw [hg]; exact (below_size (by repeat (first | (with_reducible first | exact HB.out | apply below_alloc | apply pw_below_drewN | apply below_drew1) | exact HB.out))) : w.heap.size ≤ gb383)); have n3_ := Aside0.mk ((by rw [hg]; exact (below_size (by repeat (first | (with_reducible first | exact HB.out | apply below_alloc | apply pw_below_drewN | apply below_drew1) | exact HB.out))) : w.heap.size ≤ gb383)); clear HB; have HB := n0_; have BK383 := n1_; have GW383 := n2_; have GE383 := n3_; clear n0_ n1_ n2_ n3_; clear hb hbox hg) | ((with_reducible refine gate_dst (N := 9) rfl ?_); refine Kd.R_lit (Kd.int .i64) _ 3 ?hg (N := 9) ?hd (xs := ([] : List Int)) (inner := []) (ok := fun _ => True) (okp := fun _ => True) ?hr ?hp (fun _ hk => hk) trivial (Below.refl _ _) (Nat.le_refl _) (by simp) ?_; (case hd => rfl); (case hg => rfl); (case hr => first | (go_simp; done) | (go_simp; rfl)); (case hp => exact (Reps.none _ _)); intro v385 w4 ho5 hb hg_ hnew_; clear hg_ hnew_; (first | rw [← Ny384.out] at ho5 | (simp only [Int.reduceToNat] at ho5; rw [← Ny384.out] at ho5)); have n0_ := Aside0.mk (Kd.R_lower ho5 (below_size (by repeat (first | (with_reducible first | exact HB.out | apply below_alloc | apply pw_below_drewN | apply below_drew1 | refine below_set ?_ GE383.out) | exact HB.out)))); have n1_ := Aside0.mk (blk_below (g := gb383) (o := .cells #[.string a0_0, .slice A0_1 l0_1.length c0_1, .string a0_2, .slice A0_3 l0_3.length c0_3, .slice A0_4 l0_4.length c0_4, .slice A0_5 l0_5.length c0_5] 26 (0, 0)) (by (with_reducible repeat (first | refine blk_drewN ?_ _ | refine blk_drew ?_ | refine blk_alloc ?_ _)); exact BK383.out) hb); have n2_ := Aside0.mk (below_step (by repeat (first | (with_reducible first | exact HB.out | apply below_alloc | apply pw_below_drewN | apply below_drew1 | refine below_set ?_ GE383.out) | exact HB.out)) hb); clear BK383; clear HB; have HO386 := n0_; have BK383 := n1_; have HB := n2_; clear n0_ n1_ n2_; clear hb ho5))
 go_loopg [5, 6] k (fun kq v5 v6 w' => ∃ (x5_1 : List Int) (x6_1 : Int), v6 = .int .i64 x6_1 ∧ Aside0 (truantref09_Ahead.l0 kq a1 x5_1 x6_1 a0_0 l0_1 a0_2 l0_3 l0_4 l0_5 = some r) ∧ Aside0 (kq ≤ k) ∧ Aside0 (Kd.R (Kd.int .i64) 3 w' w.heap.size (fun _ => True) v5 x5_1) ∧ Aside0 (w'.heap[gb383]? = some (.cells #[.string a0_0, (.slice A0_1 l0_1.length c0_1), .string a0_2, (.slice A0_3 l0_3.length c0_3), (.slice A0_4 l0_4.length c0_4), (.slice A0_5 l0_5.length c0_5)] 26 (0, 0))) ∧ Aside0 (Below w.heap.size w w'))
 case atStart => exact ⟨(y384), (0), (by first | rfl | (simp; done) | (simp [*]; done)), H', ⟨Nat.le_refl _⟩, ⟨by (with_reducible repeat (first | apply Kd.R_alloc | apply Kd.R_drewN | apply Kd.R_drew)); exact HO386.out⟩, ⟨by (with_reducible repeat (first | refine blk_drewN ?_ _ | refine blk_drew ?_ | refine blk_alloc ?_ _)); exact BK383.out⟩, ⟨by repeat (first | (with_reducible first | exact HB.out | apply below_alloc | apply pw_below_drewN | apply below_drew1 | refine below_set ?_ GE383.out) | exact HB.out)⟩⟩
 case round =>
  clear H'
  try clear c2
  try clear p2
  obtain ⟨x5_1, x6_1, rfl, HA, HK1, HO_5, BK383, HB⟩ := hrel
  cases gk with
  | zero => exact absurd HA.out (by simp [truantref09_Ahead.l0])
  | succ k1 =>
   have H := HA.out
   clear HA
   simp only [truantref09_Ahead.l0] at H
   by_cases c6 : x6_1 < (l0_5.length : Int)
   ·rw [if_pos c6] at H
    have c6b0 : decide (x6_1 < (l0_5.length : Int)) = true := decide_eq_true c6
    clear c6
    replace H := Option.bind_eq_some_iff.mp H
    obtain ⟨t387, A70, H⟩ := H
    replace H : (truantref09_Ahead.l1 k1 a1 x5_1 x6_1 t387 0 a0_0 l0_1 a0_2 l0_3 l0_4 l0_5) = some r := H
    have A7 := Aside0.mk A70
    clear A70
    have H' := Aside0.mk H
    clear H
    have hcz8_0 : wr.cell? ⟨gb383, 0, none⟩ = some (.string a0_0) := (blk_cell BK383.out 0).trans rfl
    have hcz8_1 : wr.cell? ⟨gb383, 1, none⟩ = some (.slice A0_1 l0_1.length c0_1) := (blk_cell BK383.out 1).trans rfl
    have hcz8_2 : wr.cell? ⟨gb383, 2, none⟩ = some (.string a0_2) := (blk_cell BK383.out 2).trans rfl
    have hcz8_3 : wr.cell? ⟨gb383, 3, none⟩ = some (.slice A0_3 l0_3.length c0_3) := (blk_cell BK383.out 3).trans rfl
    have hcz8_4 : wr.cell? ⟨gb383, 4, none⟩ = some (.slice A0_4 l0_4.length c0_4) := (blk_cell BK383.out 4).trans rfl
    have hcz8_5 : wr.cell? ⟨gb383, 5, none⟩ = some (.slice A0_5 l0_5.length c0_5) := (blk_cell BK383.out 5).trans rfl
    have hfz8_0 := blk_frozen BK383.out 0
    have hfz8_1 := blk_frozen BK383.out 1
    have hfz8_2 := blk_frozen BK383.out 2
    have hfz8_3 := blk_frozen BK383.out 3
    have hfz8_4 := blk_frozen BK383.out 4
    have hfz8_5 := blk_frozen BK383.out 5
    go_wp2_with (first | ((with_reducible refine gate_callee (f := 21) rfl ?_); refine goesL_ (some 19) rfl rfl Try.func21 (by kernel_rfl) rfl #[.agg #[.string a0_0, .slice A0_1 l0_1.length c0_1, .string a0_2, .slice A0_3 l0_3.length c0_3, .slice A0_4 l0_4.length c0_4, .slice A0_5 l0_5.length c0_5], .int .i64 x6_1] rfl (by (try simp only [List.map_toArray, List.map_cons, List.map_nil]); first | done | rfl | (simp only [List.length_drop, List.length_take]; rfl)) ?_; (with_reducible refine (truantref09_Next.calls k1 a0_0 _ _ l0_1 a0_2 _ _ l0_3 _ _ l0_4 _ _ l0_5 x6_1 t387 _ ?side1 ?side2 ?side3 ?side4 ?side5 ?side6 ?side7 ?side8 A7.out).mono ?_); (case side1 => repeat (first | exact (Kd.C_below HR0_1.out HB.out) | (with_reducible refine Kd.C_alloc ?_ _) | (with_reducible refine Kd.C_drewN ?_ _) | (with_reducible refine Kd.C_drew ?_))); (case side2 => exact HC0_1.out); (case side3 => repeat (first | exact (Kd.C_below HR0_3.out HB.out) | (with_reducible refine Kd.C_alloc ?_ _) | (with_reducible refine Kd.C_drewN ?_ _) | (with_reducible refine Kd.C_drew ?_))); (case side4 => exact HC0_3.out); (case side5 => repeat (first | exact (Kd.C_below HR0_4.out HB.out) | (with_reducible refine Kd.C_alloc ?_ _) | (with_reducible refine Kd.C_drewN ?_ _) | (with_reducible refine Kd.C_drew ?_))); (case side6 => exact HC0_4.out); (case side7 => repeat (first | exact (Kd.C_below HR0_5.out HB.out) | (with_reducible refine Kd.C_alloc ?_ _) | (with_reducible refine Kd.C_drewN ?_ _) | (with_reducible refine Kd.C_drew ?_))); (case side8 => exact HC0_5.out); rintro e w9 ⟨v388, rfl, ho0, hb⟩; refine ⟨_, rfl, ?_⟩; have n0_ := Aside0.mk (Kd.R_elder' (by (with_reducible repeat (first | apply Kd.R_alloc | apply Kd.R_drewN | apply Kd.R_drew)); exact HO_5.out) (Kd.R_base ho0) hb); have n1_ := Aside0.mk (Kd.R_lower (Kd.R_new' ho0 (Kd.R_lt (by (with_reducible repeat (first | apply Kd.R_alloc | apply Kd.R_drewN | apply Kd.R_drew)); exact HO_5.out))) (below_size (by repeat (first | (with_reducible first | exact HB.out | apply below_alloc | apply pw_below_drewN | apply below_drew1 | refine below_set ?_ GE383.out) | exact HB.out)))); have n2_ := Aside0.mk (blk_below (g := gb383) (o := .cells #[.string a0_0, .slice A0_1 l0_1.length c0_1, .string a0_2, .slice A0_3 l0_3.length c0_3, .slice A0_4 l0_4.length c0_4, .slice A0_5 l0_5.length c0_5] 26 (0, 0)) (by (with_reducible repeat (first | refine blk_drewN ?_ _ | refine blk_drew ?_ | refine blk_alloc ?_ _)); exact BK383.out) hb); have n3_ := Aside0.mk (below_step (by repeat (first | (with_reducible first | exact HB.out | apply below_alloc | apply pw_below_drewN | apply below_drew1 | refine below_set ?_ GE383.out) | exact HB.out)) hb); clear HO_5; clear BK383; clear HB; have HO_5 := n0_; have HO389 := n1_; have BK383 := n2_; have HB := n3_; clear n0_ n1_ n2_ n3_; (try clear hb); (try clear hb2); (try clear hk); (try clear hi); (try clear ho0)))
    go_loopg [5, 8] k1 (fun kq v5 v8 w' => ∃ (x5_2 : List Int) (x8_2 : Int), v8 = .int .i64 x8_2 ∧ Aside0 (truantref09_Ahead.l1 kq a1 x5_2 x6_1 t387 x8_2 a0_0 l0_1 a0_2 l0_3 l0_4 l0_5 = some r) ∧ Aside0 (kq ≤ k1) ∧ Aside0 (Kd.R (Kd.int .i64) 3 w' w.heap.size (fun k_ => some k_ ≠ (v388 : Value).ownBlock) v5 x5_2) ∧ Aside0 (Kd.R (Kd.int .i64) 3 w' w.heap.size (fun k_ => some k_ ≠ (v5 : Value).ownBlock) v388 t387) ∧ Aside0 (w'.heap[gb383]? = some (.cells #[.string a0_0, (.slice A0_1 l0_1.length c0_1), .string a0_2, (.slice A0_3 l0_3.length c0_3), (.slice A0_4 l0_4.length c0_4), (.slice A0_5 l0_5.length c0_5)] 26 (0, 0))) ∧ Aside0 (Below w.heap.size w w'))
    case atStart => exact ⟨(x5_1), (0), (by first | rfl | (simp; done) | (simp [*]; done)), H', ⟨Nat.le_refl _⟩, ⟨by (with_reducible repeat (first | apply Kd.R_alloc | apply Kd.R_drewN | apply Kd.R_drew)); exact Kd.R_mono HO_5.out (fun _ hk => hk.2)⟩, ⟨by (with_reducible repeat (first | apply Kd.R_alloc | apply Kd.R_drewN | apply Kd.R_drew)); exact Kd.R_mono HO389.out (fun _ hk => hk.2)⟩, ⟨by (with_reducible repeat (first | refine blk_drewN ?_ _ | refine blk_drew ?_ | refine blk_alloc ?_ _)); exact BK383.out⟩, ⟨by repeat (first | (with_reducible first | exact HB.out | apply below_alloc | apply pw_below_drewN | apply below_drew1 | refine below_set ?_ GE383.out) | exact HB.out)⟩⟩
    case round =>
     clear H'
     try clear c2
     try clear p2
     try clear c6
     try clear c6b0
     try clear hcz8_0
     try clear hcz8_1
     try clear hcz8_2
     try clear hcz8_3
     try clear hcz8_4
     try clear hcz8_5
     try clear hfz8_0
     try clear hfz8_1
     try clear hfz8_2
     try clear hfz8_3
     try clear hfz8_4
     try clear hfz8_5
     try clear p2
     obtain ⟨x5_2, x8_2, rfl, HA, HK2, HO_5, HO_7, BK383, HB⟩ := hrel
     cases gk with
     | zero => exact absurd HA.out (by simp [truantref09_Ahead.l1])
     | succ k2 =>
      have H := HA.out
      clear HA
      simp only [truantref09_Ahead.l1] at H
      by_cases c10 : x8_2 < (t387.length : Int)
      ·rw [if_pos c10] at H
       have c10b0 : decide (x8_2 < (t387.length : Int)) = true := decide_eq_true c10
       clear c10
       by_cases c11 : 0 ≤ x8_2
       ·rw [if_pos c11] at H
        have c11b0 : decide (0 ≤ x8_2) = true := decide_eq_true c11
        clear c11
        by_cases c12 : (rd t387 x8_2) = a1
        ·rw [if_pos c12] at H
         have c12b0 : ((rd t387 x8_2) == a1) = true := beq_iff_eq.mpr c12
         have c12b1 : ((rd t387 x8_2) != a1) = false := bne_eq_false_iff_eq.mpr c12
         clear c12
         by_cases c13 : x5_2.length < 17592186044416
         ·rw [if_pos c13] at H
          have LMc13 := Aside0.mk c13
          clear c13
          obtain ⟨y391, hy391⟩ : ∃ y_ : List Int, y_ = (x5_2 ++ [x6_1]) := ⟨_, rfl⟩
          replace H : (truantref09_Ahead.l1 k2 a1 y391 x6_1 t387 (wrap64 (x8_2 + 1)) a0_0 l0_1 a0_2 l0_3 l0_4 l0_5) = some r := by first | (rw [hy391]; with_reducible exact H) | (have H2_ := (Option.bind_some _ _).symm.trans H; rw [hy391]; with_reducible exact H2_) | (have H2_ := (Option.bind_some _ _).symm.trans H; with_reducible exact H2_) | with_reducible exact H | (rw [hy391]; exact H) | exact H
          have Ny391 := Aside0.mk hy391
          clear hy391
          have H' := Aside0.mk H
          clear H
          obtain ⟨Ao14, co14, eo14⟩ := Kd.R_slice HO_7.out
          subst eo14
          have p390 : 0 ≤ (x8_2 : Int) := of_decide_eq_true (by first | (with_reducible assumption) | assumption)
          have q390 : x8_2 < (t387.length : Int) := of_decide_eq_true (by first | (with_reducible assumption) | assumption)
          obtain ⟨ad390, e390, hx390_0⟩ := Kd.at_int (Kd.R_reads' HO_7.out).2.2 x8_2 p390 q390
          cases e390
          replace p390 := eq_true p390
          replace q390 := eq_true q390
          go_wp2_with (first | ((with_reducible refine gate_builtin (b := .append) (xs := #[.tmp 32, .tmp 34]) rfl ?_); at_builtin; refine Kd.R_append (Kd.int .i64) (w0 := w) w.heap.size rfl (.tmp 32) (.tmp 34) 34 3 (.int .i64 0) 8 rfl Try.underlying34 info3 rfl (by decide) (by omega) u5 x5_2 x6_1 [.int .i64 x6_1] (fun k_ => some k_ ≠ (.slice (some ad390) t387.length co14 : Value).ownBlock) (fun _ => False) rfl rfl ?aP (fun _ hk => hk.elim) ?aF ?aO ?aB ?aS ?aL ?_; (case aP => exact rfl); (case aB => exact (by repeat (first | (with_reducible first | exact HB.out | apply below_alloc | apply pw_below_drewN | apply below_drew1 | refine below_set ?_ GE383.out) | exact HB.out))); (case aF => exact (fun k_ hk => Kd.fresh' (Kd.R_lt (by (with_reducible repeat (first | apply Kd.R_alloc | apply Kd.R_drewN | apply Kd.R_drew)); exact HO_7.out)) k_ hk)); (case aO => exact (by (with_reducible repeat (first | apply Kd.R_alloc | apply Kd.R_drewN | apply Kd.R_drew)); exact HO_5.out)); (case aS => exact (below_size (by repeat (first | (with_reducible first | exact HB.out | apply below_alloc | apply pw_below_drewN | apply below_drew1 | refine below_set ?_ GE383.out) | exact HB.out)))); (case aL => have := LMc13.out; omega); intro v392 w15 ho hb hg hat; rw [← Ny391.out] at ho; have n0_ := Aside0.mk (Kd.R_after (ok := (fun _ => True)) (by (with_reducible repeat (first | apply Kd.R_alloc | apply Kd.R_drewN | apply Kd.R_drew)); exact Kd.R_mono HO_7.out (fun _ hk => ⟨trivial, hk⟩)) hg hat); have n1_ := Aside0.mk (blk_grown (g := gb383) (o := .cells #[.string a0_0, .slice A0_1 l0_1.length c0_1, .string a0_2, .slice A0_3 l0_3.length c0_3, .slice A0_4 l0_4.length c0_4, .slice A0_5 l0_5.length c0_5] 26 (0, 0)) (by (with_reducible repeat (first | refine blk_drewN ?_ _ | refine blk_drew ?_ | refine blk_alloc ?_ _)); exact BK383.out) hg (Kd.R_ne HO_5.out BK383.out (by decide))); have n2_ := Aside0.mk (hb); have n3_ := Aside0.mk (ho); clear HO_7; clear BK383; clear HB; clear HO_5; have HO_7 := n0_; have BK383 := n1_; have HB := n2_; have HO393 := n3_; clear n0_ n1_ n2_ n3_; clear ho hb hg hat))
          go_roundg k2
          case measure => have := HK1.out; have := HK2.out; omega
          case rel => exact ⟨(y391), (wrap64 (x8_2 + 1)), (by first | rfl | (simp; done) | (simp [*]; done)), H', ⟨by have := HK1.out; have := HK2.out; omega⟩, ⟨by (with_reducible repeat (first | apply Kd.R_alloc | apply Kd.R_drewN | apply Kd.R_drew)); exact HO393.out⟩, ⟨by (with_reducible repeat (first | apply Kd.R_alloc | apply Kd.R_drewN | apply Kd.R_drew)); exact Kd.R_mono HO_7.out (fun _ hk => hk.2)⟩, ⟨by (with_reducible repeat (first | refine blk_drewN ?_ _ | refine blk_drew ?_ | refine blk_alloc ?_ _)); exact BK383.out⟩, ⟨by repeat (first | (with_reducible first | exact HB.out | apply below_alloc | apply pw_below_drewN | apply below_drew1 | refine below_set ?_ GE383.out) | exact HB.out)⟩⟩
         ·rw [if_neg c13] at H
          exact absurd H (by simp)
        ·rw [if_neg c12] at H
         have c12b0 : ((rd t387 x8_2) == a1) = false := beq_eq_false_iff_ne.mpr c12
         have c12b1 : ((rd t387 x8_2) != a1) = true := bne_iff_ne.mpr c12
         have H' := Aside0.mk H
         clear H
         obtain ⟨Ao16, co16, eo16⟩ := Kd.R_slice HO_7.out
         subst eo16
         have p390 : 0 ≤ (x8_2 : Int) := of_decide_eq_true (by first | (with_reducible assumption) | assumption)
         have q390 : x8_2 < (t387.length : Int) := of_decide_eq_true (by first | (with_reducible assumption) | assumption)
         obtain ⟨ad390, e390, hx390_0⟩ := Kd.at_int (Kd.R_reads' HO_7.out).2.2 x8_2 p390 q390
         cases e390
         replace p390 := eq_true p390
         replace q390 := eq_true q390
         go_wp2
         go_roundg k2
         case measure => have := HK1.out; have := HK2.out; omega
         case rel => exact ⟨(x5_2), (wrap64 (x8_2 + 1)), (by first | rfl | (simp; done) | (simp [*]; done)), H', ⟨by have := HK1.out; have := HK2.out; omega⟩, ⟨by (with_reducible repeat (first | apply Kd.R_alloc | apply Kd.R_drewN | apply Kd.R_drew)); exact HO_5.out⟩, ⟨by (with_reducible repeat (first | apply Kd.R_alloc | apply Kd.R_drewN | apply Kd.R_drew)); exact HO_7.out⟩, ⟨by (with_reducible repeat (first | refine blk_drewN ?_ _ | refine blk_drew ?_ | refine blk_alloc ?_ _)); exact BK383.out⟩, ⟨by repeat (first | (with_reducible first | exact HB.out | apply below_alloc | apply pw_below_drewN | apply below_drew1 | refine below_set ?_ GE383.out) | exact HB.out)⟩⟩
       ·rw [if_neg c11] at H
        exact absurd H (by simp)
      ·rw [if_neg c10] at H
       have c10b0 : decide (x8_2 < (t387.length : Int)) = false := decide_eq_false c10
       clear c10
       have H' := Aside0.mk H
       clear H
       obtain ⟨Ao17, co17, eo17⟩ := Kd.R_slice HO_7.out
       subst eo17
       go_wp2
       go_roundg k2
       case measure => have := HK1.out; have := HK2.out; omega
       case rel => exact ⟨(x5_2), (wrap64 (x6_1 + 1)), (by first | rfl | (simp; done) | (simp [*]; done)), H', ⟨by have := HK1.out; have := HK2.out; omega⟩, ⟨by (with_reducible repeat (first | apply Kd.R_alloc | apply Kd.R_drewN | apply Kd.R_drew)); exact Kd.R_mono HO_5.out (fun _ hk => trivial)⟩, ⟨by (with_reducible repeat (first | refine blk_drewN ?_ _ | refine blk_drew ?_ | refine blk_alloc ?_ _)); exact BK383.out⟩, ⟨by repeat (first | (with_reducible first | exact HB.out | apply below_alloc | apply pw_below_drewN | apply below_drew1 | refine below_set ?_ GE383.out) | exact HB.out)⟩⟩
   ·rw [if_neg c6] at H
    have c6b0 : decide (x6_1 < (l0_5.length : Int)) = false := decide_eq_false c6
    clear c6
    obtain rfl := Option.some.inj H
    have hcz18_0 : wr.cell? ⟨gb383, 0, none⟩ = some (.string a0_0) := (blk_cell BK383.out 0).trans rfl
    have hcz18_1 : wr.cell? ⟨gb383, 1, none⟩ = some (.slice A0_1 l0_1.length c0_1) := (blk_cell BK383.out 1).trans rfl
    have hcz18_2 : wr.cell? ⟨gb383, 2, none⟩ = some (.string a0_2) := (blk_cell BK383.out 2).trans rfl
    have hcz18_3 : wr.cell? ⟨gb383, 3, none⟩ = some (.slice A0_3 l0_3.length c0_3) := (blk_cell BK383.out 3).trans rfl
    have hcz18_4 : wr.cell? ⟨gb383, 4, none⟩ = some (.slice A0_4 l0_4.length c0_4) := (blk_cell BK383.out 4).trans rfl
    have hcz18_5 : wr.cell? ⟨gb383, 5, none⟩ = some (.slice A0_5 l0_5.length c0_5) := (blk_cell BK383.out 5).trans rfl
    have hfz18_0 := blk_frozen BK383.out 0
    have hfz18_1 := blk_frozen BK383.out 1
    have hfz18_2 := blk_frozen BK383.out 2
    have hfz18_3 := blk_frozen BK383.out 3
    have hfz18_4 := blk_frozen BK383.out 4
    have hfz18_5 := blk_frozen BK383.out 5
    go_wp2
    go_ret
    exact ⟨_, by first | rfl | (simp [errW_none, errW_some] <;> rfl) | (simp [*, errW_none, errW_some] <;> rfl), by (with_reducible repeat (first | apply Kd.R_alloc | apply Kd.R_drewN | apply Kd.R_drew)); exact HO_5.out, by repeat (first | (with_reducible first | exact HB.out | apply below_alloc | apply pw_below_drewN | apply below_drew1 | refine below_set ?_ GE383.out) | exact HB.out)⟩

end Go.Proofs.Ytclhjalgflebfaa.Q

/- Flow, plain law: what the walk from a block on comes to. -/

namespace Go.Proofs.Ytclhjalgflebfaa.Q
open Go.RowKit Go.Proofs.YtclhjalgflebfaaW.PrintWords Go.Proofs.YtclhjalgflebfaaW.PrintLast Go.Proofs.YtclhjalgflebfaaW.PrintMore
set_option linter.unusedVariables false
set_option linter.unusedSimpArgs false
def hasR (s : List Bool) (x : Int) : Prop := 0 ≤ x ∧ x < (s.length : Int) ∧ rdOf false s x = true
theorem hasR_set {s : List Bool} {b x : Int} (hb0 : 0 ≤ b) (hb1 : b < (s.length : Int)) : hasR (s.set b.toNat true) x ↔ hasR s x ∨ x = b := by
 unfold hasR rdOf
 rw [List.length_set]
 by_cases h0 : 0 ≤ x ∧ x < (s.length : Int)
 ·by_cases hx : x = b
  ·subst hx
   simp only [List.getD]
   rw [List.getElem?_set_self (by omega)]
   simp [h0]
  ·have : ¬ b.toNat = x.toNat := by omega
   simp only [List.getD, List.getElem?_set, if_neg this]
   simp [hx]
 ·constructor
  ·intro h; exact absurd ⟨h.1, h.2.1⟩ h0
  ·rintro (h | rfl)
   ·exact absurd ⟨h.1, h.2.1⟩ h0
   ·exact absurd ⟨hb0, hb1⟩ h0
def unseen (s : List Bool) : Nat := s.count false
theorem unseen_set : ∀ {s : List Bool} {m : Nat}, m < s.length → s.getD m false = false → unseen (s.set m true) + 1 = unseen s
 | [], m, h, _ => by simp at h
 | a :: s, 0, _, h2 => by
  have : a = false := by simpa using h2
  subst this
  simp [unseen]
 | a :: s, m + 1, h, h2 => by
  have := unseen_set (s := s) (m := m) (by simpa using h) (by simpa using h2)
  simp only [unseen, List.set_cons_succ, List.count_cons] at this ⊢
  omega
/-- What one walk adds: e; from what it began: xs. -/
structure Adds (l : List S40) (s s' : List Bool) (xs e : List Int) : Prop where
 len : s'.length = s.length
 mem : ∀ x, hasR s' x ↔ hasR s x ∨ x ∈ e
 new : ∀ x, x ∈ e → ¬ hasR s x
 nodup : e.Nodup
 count : unseen s' + e.length = unseen s
 goes : ∀ x, x ∈ e → ∀ y, y ∈ nextOf l x → hasR s' y
 starts : ∀ x, x ∈ xs → hasR s' x
 led : ∀ e1 x e2, e = e1 ++ x :: e2 → x ∈ xs ∨ ∃ p, p ∈ e2 ∧ x ∈ nextOf l p
theorem Adds.trans {l : List S40} {s s1 s2 : List Bool} {x : Int} {xs e1 e2 : List Int} (h : Adds l s s1 [x] e1) (k : Adds l s1 s2 xs e2) : Adds l s s2 (x :: xs) (e1 ++ e2) := by
 refine ⟨k.len.trans h.len, fun y => ?_, fun y hy => ?_, ?_, ?_, fun y hy z hz => ?_, fun y hy => ?_, fun f1 y f2 he => ?_⟩
 ·rw [k.mem, h.mem, List.mem_append, or_assoc]
 ·rcases List.mem_append.mp hy with hy | hy
  ·exact h.new y hy
  ·exact fun hs => k.new y hy ((h.mem y).mpr (.inl hs))
 ·rw [List.nodup_append]
  refine ⟨h.nodup, k.nodup, fun a ha b hb hab => ?_⟩
  subst hab
  exact k.new a hb ((h.mem a).mpr (.inr ha))
 ·have h1 := h.count; have h2 := k.count
  rw [List.length_append]
  omega
 ·rcases List.mem_append.mp hy with hy | hy
  ·exact (k.mem z).mpr (.inl (h.goes y hy z hz))
  ·exact k.goes y hy z hz
 ·rcases List.mem_cons.mp hy with rfl | hy
  ·exact (k.mem y).mpr (.inl (h.starts y (by simp)))
  ·exact k.starts y hy
 ·rcases List.append_eq_append_iff.mp he with ⟨g, rfl, h2⟩ | ⟨g, h1, h2⟩
  ·rcases k.led g y f2 h2 with hq | hq
   ·exact .inl (List.mem_cons_of_mem _ hq)
   ·exact .inr hq
  ·cases g with
   | nil =>
    rw [List.append_nil] at h1
    rcases k.led [] y f2 (by simpa using h2.symm) with hq | hq
    ·exact .inl (List.mem_cons_of_mem _ hq)
    ·exact .inr hq
   | cons z g =>
    simp only [List.cons_append, List.cons.injEq] at h2
    obtain ⟨rfl, rfl⟩ := h2
    rcases h.led f1 y g h1 with hq | ⟨p, hp, hq⟩
    ·left
     rw [List.mem_singleton] at hq
     subst hq
     exact List.mem_cons_self
    ·exact .inr ⟨p, List.mem_append_left _ hp, hq⟩
theorem Adds.none {l : List S40} {s : List Bool} {xs : List Int} (h : ∀ x, x ∈ xs → hasR s x) : Adds l s s xs [] :=
 ⟨rfl, fun x => (by simp), fun x hx => (by cases hx), List.nodup_nil, rfl, fun x hx => (by cases hx), h, fun e1 x e2 he => (by simp at he)⟩
theorem fold_adds (l : List S40) (k : Nat) (hk : ∀ (b : Int) (s : List Bool) (d : List Int), s.length = l.length → 0 ≤ b → b < (l.length : Int) → ¬ hasR s b → unseen s ≤ k → d.length + unseen s < LIMF → ∃ s' e, visitO l k b s d = some (s', d ++ e) ∧ Adds l s s' [b] e) :
  ∀ (xs : List Int) (s : List Bool) (d : List Int), s.length = l.length → (∀ x ∈ xs, 0 ≤ x ∧ x < (l.length : Int)) → unseen s ≤ k → d.length + unseen s < LIMF → ∃ s' e, xs.foldlM (stepO l k) (s, d) = some (s', d ++ e) ∧ Adds l s s' xs e
 | [], s, d, _, _, _, _ => ⟨s, [], by simp, Adds.none (fun x hx => by cases hx)⟩
 | x :: xs, s, d, hs, hx, hu, hd => by
  have hx0 := hx x List.mem_cons_self
  rw [List.foldlM_cons]
  unfold stepO
  rw [if_pos (by rw [hs]; exact hx0)]
  by_cases hr : rdOf false s x = true
  ·rw [if_pos hr]
   obtain ⟨s', e, h1, h2⟩ := fold_adds l k hk xs s d hs (fun y hy => hx y (List.mem_cons_of_mem _ hy)) hu hd
   refine ⟨s', e, h1, ?_⟩
   have := (Adds.none (l := l) (s := s) (xs := [x]) (fun y hy => by rw [List.mem_singleton] at hy; subst hy; exact ⟨hx0.1, by rw [hs]; exact hx0.2, hr⟩)).trans h2
   simpa using this
  ·rw [if_neg hr]
   obtain ⟨s1, e1, h1, h2⟩ := hk x s d hs hx0.1 hx0.2 (fun h => hr h.2.2) hu hd
   have hc := h2.count
   obtain ⟨s2, e2, h3, h4⟩ := fold_adds l k hk xs s1 (d ++ e1) (h2.len.trans hs) (fun y hy => hx y (List.mem_cons_of_mem _ hy)) (by omega) (by rw [List.length_append]; omega)
   refine ⟨s2, e1 ++ e2, ?_, h2.trans h4⟩
   rw [← List.append_assoc]
   show (visitO l k x s d).bind _ = _
   rw [h1]
   exact h3
theorem visit_adds (l : List S40) : ∀ (k : Nat) (b : Int) (s : List Bool) (d : List Int), s.length = l.length → 0 ≤ b → b < (l.length : Int) → ¬ hasR s b → unseen s ≤ k → d.length + unseen s < LIMF → ∃ s' e, visitO l k b s d = some (s', d ++ e) ∧ Adds l s s' [b] e ∧ ∃ e', e = e' ++ [b] ∧ ((nextOf l b).foldlM (stepO l (k - 1)) (s.set b.toNat true, d)) = some (s', d ++ e') ∧ Adds l (s.set b.toNat true) s' (nextOf l b) e'
 | 0, b, s, d, hs, h0, h1, hn, hu, hd => by
  have h2 : s.getD b.toNat false = false := by
   cases hq : s.getD b.toNat false with
   | false => rfl
   | true => exact absurd ⟨h0, by omega, hq⟩ hn
  have := unseen_set (s := s) (m := b.toNat) (by omega) h2
  omega
 | k + 1, b, s, d, hs, h0, h1, hn, hu, hd => by
  have h2 : s.getD b.toNat false = false := by
   cases hq : s.getD b.toNat false with
   | false => rfl
   | true => exact absurd ⟨h0, by omega, hq⟩ hn
  have hu2 := unseen_set (s := s) (m := b.toNat) (by omega) h2
  obtain ⟨s', e, h3, h4⟩ := fold_adds l k (fun b s d h1 h2 h3 h4 h5 h6 => by obtain ⟨s', e, q1, q2, _⟩ := visit_adds l k b s d h1 h2 h3 h4 h5 h6; exact ⟨s', e, q1, q2⟩) (nextOf l b) (s.set b.toNat true) d (by rw [List.length_set]; exact hs) (fun x hx => next_in hx) (by omega) (by omega)
  have hm := fun x => (hasR_set (s := s) (x := x) h0 (by omega : b < (s.length : Int)))
  have hc := h4.count
  refine ⟨s', e ++ [b], ?_, ⟨?_, fun x => ?_, fun x hx => ?_, ?_, ?_, fun x hx y hy => ?_, fun x hx => ?_, fun e1 x e2 he => ?_⟩, e, rfl, h3, h4⟩
  ·rw [visitO_succ, if_pos ⟨h0, by omega⟩, h3]
   simp only [Option.bind_some]
   rw [if_pos (by rw [List.length_append]; omega), List.append_assoc]
  ·rw [h4.len, List.length_set]
  ·rw [h4.mem, hm, List.mem_append, List.mem_singleton, or_assoc, or_comm (a := x = b)]
  ·rcases List.mem_append.mp hx with hx | hx
   ·exact fun h => h4.new x hx ((hm x).mpr (.inl h))
   ·rw [List.mem_singleton] at hx
    subst hx
    exact hn
  ·rw [List.nodup_append]
   refine ⟨h4.nodup, by simp, fun a ha c hc2 hac => ?_⟩
   rw [List.mem_singleton] at hc2
   subst hac hc2
   exact h4.new a ha ((hm a).mpr (.inr rfl))
  ·rw [List.length_append]
   simp only [List.length_singleton]
   omega
  ·rcases List.mem_append.mp hx with hx | hx
   ·exact h4.goes x hx y hy
   ·rw [List.mem_singleton] at hx
    subst hx
    exact h4.starts y hy
  ·rw [List.mem_singleton] at hx
   subst hx
   exact (h4.mem x).mpr (.inl ((hm x).mpr (.inr rfl)))
  ·rcases List.append_eq_append_iff.mp he with ⟨g, rfl, hg⟩ | ⟨g, h5, h6⟩
   ·cases g with
    | nil =>
     simp only [List.nil_append, List.cons.injEq] at hg
     exact .inl (by rw [hg.1]; simp)
    | cons z g => simp at hg
   ·cases g with
    | nil =>
     simp only [List.nil_append, List.cons.injEq] at h6
     exact .inl (by rw [← h6.1]; simp)
    | cons z g =>
     simp only [List.cons_append, List.cons.injEq] at h6
     obtain ⟨rfl, rfl⟩ := h6
     rcases h4.led e1 x g h5 with hq | ⟨p, hp, hq⟩
     ·exact .inr ⟨b, by simp, hq⟩
     ·exact .inr ⟨p, List.mem_append_left _ hp, hq⟩
end Go.Proofs.Ytclhjalgflebfaa.Q

/- Flow, plain law: the document's Next and Ahead, the code's Ahead; rows that are the same; 'wide'. -/

namespace Go.Proofs.Ytclhjalgflebfaa.Q
open Go.RowKit Go.Proofs.YtclhjalgflebfaaW.PrintWords Go.Proofs.YtclhjalgflebfaaW.PrintLast Go.Proofs.YtclhjalgflebfaaW.PrintMore
set_option linter.unusedVariables false
set_option linter.unusedSimpArgs false
theorem wrap_up {i : Nat} {n : Nat} (h : i < n) (hn : n ≤ 140737488351232) : wrap64 ((i : Int) + 1) = ((i + 1 : Nat) : Int) := by unfold wrap64; omega
section
variable (a0 : ByteArray) (l1 : List ByteArray) (a2 : ByteArray) (l3 : List ByteArray) (l4 : List S58) (l : List S40)
theorem inB_iff {n : Nat} {i : Int} : inB n i = true ↔ 0 ≤ i ∧ i < (n : Int) := by simp [inB]
theorem refNext (i : Int) : Ev (fun k => truantref09_Next.f k a0 l1 a2 l3 l4 l i) (nextOf l i) := by
 unfold truantref09_Next.f nextOf
 by_cases h0 : i < 0
 ·rw [if_neg (by omega)]
  simp only [Option.bind_some, if_pos h0]
  exact Ev.step (fun k => rfl) (Ev.now _)
 ·simp only [Option.bind_some, if_neg h0]
  by_cases h1 : i < (l.length : Int)
  ·rw [if_pos ⟨by omega, h1⟩, decide_eq_false (by omega : ¬ i ≥ (l.length : Int))]
   refine Ev.step (fun k => rfl) (Ev.pos (by omega) (Ev.pos h1 ?_))
   generalize rd_T40 l i = b
   unfold jumpTo
   have e1 : ([] : List Int).length < 17592186044416 := by simp
   have e2 : ∀ x : Int, ([x] : List Int).length < 17592186044416 := fun x => by simp
   by_cases hg : b.f1 = 1
   ·rw [if_pos hg]
    refine Ev.pos hg ?_
    by_cases hx : b.f3.f0 ≥ 0
    ·refine Ev.pos hx (Ev.step (fun k => rfl) ?_)
     by_cases hy : b.f3.f0 < (l.length : Int)
     ·refine Ev.pos (by simpa using hy) (Ev.pos e1 (Ev.neg (by omega) ?_))
      have : inB l.length b.f3.f0 = true := inB_iff.mpr ⟨hx, hy⟩
      simp only [List.filter_cons, this, if_true, List.filter_nil]
      exact Ev.now _
     ·refine Ev.neg (by simpa using hy) (Ev.neg (by omega) ?_)
      have : inB l.length b.f3.f0 = false := by cases h : inB l.length b.f3.f0 with | false => rfl | true => exact absurd (inB_iff.mp h).2 hy
      simp only [List.filter_cons, this, List.filter_nil]
      exact Ev.now _
    ·refine Ev.neg hx (Ev.step (fun k => rfl) (Ev.neg (by omega) ?_))
     have : inB l.length b.f3.f0 = false := by cases h : inB l.length b.f3.f0 with | false => rfl | true => exact absurd (inB_iff.mp h).1 hx
     simp only [List.filter_cons, this, List.filter_nil]
     exact Ev.now _
   ·rw [if_neg hg]
    refine Ev.neg hg ?_
    by_cases hg2 : b.f1 = 2
    ·rw [if_pos hg2]
     refine Ev.pos hg2 ?_
     have key : ∀ (c : Bool), c = inB l.length b.f3.f0 → Ev (fun k => truantref09_Next.j1 k ([] : List Int) c a0 l1 a2 l3 l4 l b.f0 b.f1 b.f2 b.f3.f0 b.f3.f1) (List.filter (inB l.length) (if b.f3.f0 = b.f3.f1 then [b.f3.f0] else [b.f3.f0, b.f3.f1])) := by
      intro c hc
      refine Ev.step (fun k => rfl) ?_
      cases c with
      | true =>
       refine Ev.pos hg2 ?_
       by_cases he : b.f3.f1 = b.f3.f0
       ·refine Ev.pos he ?_
        rw [if_pos he.symm]
        simp only [List.filter_cons, ← hc, if_true, List.filter_nil]
        exact Ev.now _
       ·refine Ev.neg he ?_
        rw [if_neg (Ne.symm he)]
        by_cases hx : b.f3.f1 ≥ 0
        ·refine Ev.pos hx ?_
         by_cases hy : b.f3.f1 < (l.length : Int)
         ·refine Ev.pos hy ?_
          have : inB l.length b.f3.f1 = true := inB_iff.mpr ⟨hx, hy⟩
          simp only [List.filter_cons, ← hc, this, if_true, List.filter_nil]
          exact Ev.now _
         ·refine Ev.neg hy ?_
          have : inB l.length b.f3.f1 = false := by cases h : inB l.length b.f3.f1 with | false => rfl | true => exact absurd (inB_iff.mp h).2 hy
          simp only [List.filter_cons, ← hc, this, if_true, List.filter_nil]
          exact Ev.now _
        ·refine Ev.neg hx ?_
         have : inB l.length b.f3.f1 = false := by cases h : inB l.length b.f3.f1 with | false => rfl | true => exact absurd (inB_iff.mp h).1 hx
         simp only [List.filter_cons, ← hc, this, if_true, List.filter_nil]
         exact Ev.now _
      | false =>
       refine Ev.pos hg2 ?_
       by_cases he : b.f3.f1 = b.f3.f0
       ·refine Ev.pos he ?_
        rw [if_pos he.symm]
        simp only [List.filter_cons, ← hc, List.filter_nil]
        exact Ev.now _
       ·refine Ev.neg he ?_
        rw [if_neg (Ne.symm he)]
        by_cases hx : b.f3.f1 ≥ 0
        ·refine Ev.pos hx ?_
         by_cases hy : b.f3.f1 < (l.length : Int)
         ·refine Ev.pos hy ?_
          have : inB l.length b.f3.f1 = true := inB_iff.mpr ⟨hx, hy⟩
          simp only [List.filter_cons, ← hc, this, if_true, List.filter_nil]
          exact Ev.now _
         ·refine Ev.neg hy ?_
          have : inB l.length b.f3.f1 = false := by cases h : inB l.length b.f3.f1 with | false => rfl | true => exact absurd (inB_iff.mp h).2 hy
          simp only [List.filter_cons, ← hc, this, List.filter_nil]
          exact Ev.now _
        ·refine Ev.neg hx ?_
         have : inB l.length b.f3.f1 = false := by cases h : inB l.length b.f3.f1 with | false => rfl | true => exact absurd (inB_iff.mp h).1 hx
         simp only [List.filter_cons, ← hc, this, List.filter_nil]
         exact Ev.now _
     by_cases hx : b.f3.f0 ≥ 0
     ·refine Ev.pos hx (key _ ?_)
      simp [inB, hx]
     ·refine Ev.neg hx (key _ ?_)
      have : inB l.length b.f3.f0 = false := by cases h : inB l.length b.f3.f0 with | false => rfl | true => exact absurd (inB_iff.mp h).1 hx
      rw [this]
    ·rw [if_neg hg2]
     exact Ev.neg hg2 (Ev.step (fun k => rfl) (Ev.neg hg2 (Ev.now _)))
  ·rw [if_neg (by omega), decide_eq_true (by omega : i ≥ (l.length : Int))]
   exact Ev.step (fun k => rfl) (Ev.now _)
end
theorem same_ev (x : List Int) (hx : x.length ≤ 140737488351232) : Ev (fun k => truantlaw09_same.f k x x) true := by
 unfold truantlaw09_same.f
 refine Ev.pos rfl ?_
 have key : ∀ (d i : Nat), x.length - i = d → i ≤ x.length → Ev (fun k => truantlaw09_same.l0 k x x (i : Int)) true := by
  intro d
  induction d with
  | zero => intro i hd hi; exact Ev.step (fun k => rfl) (Ev.neg (by omega) (Ev.now _))
  | succ d ih =>
   intro i hd hi
   refine Ev.step (fun k => rfl) (Ev.pos (by omega) (Ev.pos (by omega) (Ev.pos (by omega) (Ev.pos rfl ?_))))
   rw [wrap_up (n := x.length) (by omega) hx]
   exact ih (i + 1) (by omega) (by omega)
 exact key _ 0 rfl (Nat.zero_le _)
section
variable (a0 : ByteArray) (l1 : List ByteArray) (a2 : ByteArray) (l3 : List ByteArray) (l4 : List S58) (l : List S40) (hl : l.length ≤ 1099511627776)
include hl
omit hl in
theorem nodup_next (l : List S40) (i : Int) : (nextOf l i).Nodup := by
 unfold nextOf
 split
 ·refine List.Pairwise.filter _ ?_
  show (jumpTo _).Nodup
  unfold jumpTo
  split
  ·simp
  ·split
   ·split
    ·simp
    ·rename_i h; simp [h]
   ·simp
 ·simp
end
end Go.Proofs.Ytclhjalgflebfaa.Q

namespace Go.Proofs.Ytclhjalgflebfaa.Q
open Go.RowKit Go.Proofs.YtclhjalgflebfaaW.PrintWords Go.Proofs.YtclhjalgflebfaaW.PrintLast Go.Proofs.YtclhjalgflebfaaW.PrintMore
attribute [local go_sem] max2_int min2_int max_two min_two max_three min_three max_four min_four   -- for this text's walks alone
set_option linter.unusedVariables false
set_option linter.unusedSimpArgs false

/-! ### truantref09_Reached: function 18 -/
mutual
def truantref09_Reached.l0 : Nat → List Bool → Int → ByteArray → List ByteArray → ByteArray → List ByteArray → List (S58) → List (S40) → Option (List Bool)
 | 0, _, _, _, _, _, _, _, _ => none
 | k + 1, x3, x4, x340000, x340001, x340002, x340003, x340004, x340005 => if x4 < (x3.length : Int) then (truantref09_Reached.l1 k x3 x4 0 x340000 x340001 x340002 x340003 x340004 x340005) else (some x3)
def truantref09_Reached.l1 : Nat → List Bool → Int → Int → ByteArray → List ByteArray → ByteArray → List ByteArray → List (S58) → List (S40) → Option (List Bool)
 | 0, _, _, _, _, _, _, _, _, _ => none
 | k + 1, x3, x4, x5, x340000, x340001, x340002, x340003, x340004, x340005 => if x5 < (x3.length : Int) then ((truantref09_Next.f k x340000 x340001 x340002 x340003 x340004 x340005 x5).bind fun t344 => (truantref09_Reached.l2 k x3 x4 x5 t344 0 x340000 x340001 x340002 x340003 x340004 x340005)) else (truantref09_Reached.l0 k x3 (wrap64 (x4 + 1)) x340000 x340001 x340002 x340003 x340004 x340005)
def truantref09_Reached.l2 : Nat → List Bool → Int → Int → List Int → Int → ByteArray → List ByteArray → ByteArray → List ByteArray → List (S58) → List (S40) → Option (List Bool)
 | 0, _, _, _, _, _, _, _, _, _, _, _ => none
 | k + 1, x3, x4, x5, x6, x7, x340000, x340001, x340002, x340003, x340004, x340005 => if 0 ≤ x5 then (if x5 < (x3.length : Int) then (if rdOf false x3 x5 = true then (if x7 < (x6.length : Int) then (if 0 ≤ x7 then (if 0 ≤ (rd x6 x7) then (if (rd x6 x7) < (x3.length : Int) then (truantref09_Reached.l2 k (x3.set ((rd x6 x7) : Int).toNat true) x4 x5 x6 (wrap64 (x7 + 1)) x340000 x340001 x340002 x340003 x340004 x340005) else (none)) else (none)) else (none)) else (truantref09_Reached.l1 k x3 x4 (wrap64 (x5 + 1)) x340000 x340001 x340002 x340003 x340004 x340005)) else (truantref09_Reached.l1 k x3 x4 (wrap64 (x5 + 1)) x340000 x340001 x340002 x340003 x340004 x340005)) else (none)) else (none)
end
def truantref09_Reached.f (k : Nat) (a0_0 : ByteArray) (l0_1 : List ByteArray) (a0_2 : ByteArray) (l0_3 : List ByteArray) (l0_4 : List (S58)) (l0_5 : List (S40)) : Option (List Bool) := if 0 ≤ (l0_5.length : Int) then (if ((l0_5.length : Int) : Int).toNat ≤ 281474976710656 then ((some (List.replicate ((l0_5.length : Int) : Int).toNat false : List Bool)).bind fun y340 => (if (y340.length : Int) = 0 then (some y340) else (if 0 < (y340.length : Int) then (truantref09_Reached.l0 k (y340.set (0 : Int).toNat true) 0 a0_0 l0_1 a0_2 l0_3 l0_4 l0_5) else (none)))) else (none)) else (none)
theorem truantref09_Reached.mono_l : ∀ k, (∀ y0 y1 y2 y3 y4 y5 y6 y7, LeO (truantref09_Reached.l0 k y0 y1 y2 y3 y4 y5 y6 y7) (truantref09_Reached.l0 (k + 1) y0 y1 y2 y3 y4 y5 y6 y7)) ∧ (∀ y0 y1 y2 y3 y4 y5 y6 y7 y8, LeO (truantref09_Reached.l1 k y0 y1 y2 y3 y4 y5 y6 y7 y8) (truantref09_Reached.l1 (k + 1) y0 y1 y2 y3 y4 y5 y6 y7 y8)) ∧ (∀ y0 y1 y2 y3 y4 y5 y6 y7 y8 y9 y10, LeO (truantref09_Reached.l2 k y0 y1 y2 y3 y4 y5 y6 y7 y8 y9 y10) (truantref09_Reached.l2 (k + 1) y0 y1 y2 y3 y4 y5 y6 y7 y8 y9 y10))
 | 0 => ⟨fun _ _ _ _ _ _ _ _ r h => by simp [truantref09_Reached.l0] at h, fun _ _ _ _ _ _ _ _ _ r h => by simp [truantref09_Reached.l1] at h, fun _ _ _ _ _ _ _ _ _ _ _ r h => by simp [truantref09_Reached.l2] at h⟩
 | k + 1 => by
  obtain ⟨ih0, ih1, ih2⟩ := truantref09_Reached.mono_l k
  refine ⟨?_, ?_, ?_⟩
  ·intro y0 y1 y2 y3 y4 y5 y6 y7
   unfold truantref09_Reached.l0
   repeat' first
   | (with_reducible exact ih0 _ _ _ _ _ _ _ _)
   | (with_reducible exact ih1 _ _ _ _ _ _ _ _ _)
   | (with_reducible exact ih2 _ _ _ _ _ _ _ _ _ _ _)
   | (with_reducible exact truantref09_Next.mono _ _ _ _ _ _ _ _)
   | (with_reducible exact LeO.refl _)
   | (with_reducible exact LeO.none _)
   | (with_reducible refine LeO.ite ?_ ?_)
   | (with_reducible refine LeO.bind ?_ (fun _ => ?_))
   | exact ih0 _ _ _ _ _ _ _ _
   | exact ih1 _ _ _ _ _ _ _ _ _
   | exact ih2 _ _ _ _ _ _ _ _ _ _ _
   | exact truantref09_Next.mono _ _ _ _ _ _ _ _
   | exact LeO.none _
   | refine LeO.ite ?_ ?_
   | refine LeO.bind ?_ (fun _ => ?_)
  ·intro y0 y1 y2 y3 y4 y5 y6 y7 y8
   unfold truantref09_Reached.l1
   repeat' first
   | (with_reducible exact ih0 _ _ _ _ _ _ _ _)
   | (with_reducible exact ih1 _ _ _ _ _ _ _ _ _)
   | (with_reducible exact ih2 _ _ _ _ _ _ _ _ _ _ _)
   | (with_reducible exact truantref09_Next.mono _ _ _ _ _ _ _ _)
   | (with_reducible exact LeO.refl _)
   | (with_reducible exact LeO.none _)
   | (with_reducible refine LeO.ite ?_ ?_)
   | (with_reducible refine LeO.bind ?_ (fun _ => ?_))
   | exact ih0 _ _ _ _ _ _ _ _
   | exact ih1 _ _ _ _ _ _ _ _ _
   | exact ih2 _ _ _ _ _ _ _ _ _ _ _
   | exact truantref09_Next.mono _ _ _ _ _ _ _ _
   | exact LeO.none _
   | refine LeO.ite ?_ ?_
   | refine LeO.bind ?_ (fun _ => ?_)
  ·intro y0 y1 y2 y3 y4 y5 y6 y7 y8 y9 y10
   unfold truantref09_Reached.l2
   repeat' first
   | (with_reducible exact ih0 _ _ _ _ _ _ _ _)
   | (with_reducible exact ih1 _ _ _ _ _ _ _ _ _)
   | (with_reducible exact ih2 _ _ _ _ _ _ _ _ _ _ _)
   | (with_reducible exact truantref09_Next.mono _ _ _ _ _ _ _ _)
   | (with_reducible exact LeO.refl _)
   | (with_reducible exact LeO.none _)
   | (with_reducible refine LeO.ite ?_ ?_)
   | (with_reducible refine LeO.bind ?_ (fun _ => ?_))
   | exact ih0 _ _ _ _ _ _ _ _
   | exact ih1 _ _ _ _ _ _ _ _ _
   | exact ih2 _ _ _ _ _ _ _ _ _ _ _
   | exact truantref09_Next.mono _ _ _ _ _ _ _ _
   | exact LeO.none _
   | refine LeO.ite ?_ ?_
   | refine LeO.bind ?_ (fun _ => ?_)
theorem truantref09_Reached.mono : ∀ a0 a1 a2 a3 a4 a5 k, LeO (truantref09_Reached.f k a0 a1 a2 a3 a4 a5) (truantref09_Reached.f (k + 1) a0 a1 a2 a3 a4 a5) := by
 intro a0 a1 a2 a3 a4 a5 k
 obtain ⟨ih0, ih1, ih2⟩ := truantref09_Reached.mono_l k
 unfold truantref09_Reached.f
 repeat' first
   | (with_reducible exact ih0 _ _ _ _ _ _ _ _)
   | (with_reducible exact ih1 _ _ _ _ _ _ _ _ _)
   | (with_reducible exact ih2 _ _ _ _ _ _ _ _ _ _ _)
   | (with_reducible exact truantref09_Next.mono _ _ _ _ _ _ _ _)
   | (with_reducible exact LeO.refl _)
   | (with_reducible exact LeO.none _)
   | (with_reducible refine LeO.ite ?_ ?_)
   | (with_reducible refine LeO.bind ?_ (fun _ => ?_))
   | exact ih0 _ _ _ _ _ _ _ _
   | exact ih1 _ _ _ _ _ _ _ _ _
   | exact ih2 _ _ _ _ _ _ _ _ _ _ _
   | exact truantref09_Next.mono _ _ _ _ _ _ _ _
   | exact LeO.none _
   | refine LeO.ite ?_ ?_
   | refine LeO.bind ?_ (fun _ => ?_)
set_option maxHeartbeats 8000000 in
set_option maxRecDepth 100000 in
theorem truantref09_Reached.calls (k : Nat) (a0_0 : ByteArray) (A0_1 : Option Addr) (c0_1 : Nat) (l0_1 : List ByteArray) (a0_2 : ByteArray) (A0_3 : Option Addr) (c0_3 : Nat) (l0_3 : List ByteArray) (A0_4 : Option Addr) (c0_4 : Nat) (l0_4 : List (S58)) (A0_5 : Option Addr) (c0_5 : Nat) (l0_5 : List (S40)) (r : List Bool) (w : World) (hr0_1 : Kd.C Kd.string w A0_1 l0_1.length l0_1) (hc0_1 : l0_1.length ≤ c0_1) (hr0_3 : Kd.C Kd.string w A0_3 l0_3.length l0_3) (hc0_3 : l0_3.length ≤ c0_3) (hr0_4 : Kd.C k58 w A0_4 l0_4.length l0_4) (hc0_4 : l0_4.length ≤ c0_4) (hr0_5 : Kd.C k40 w A0_5 l0_5.length l0_5) (hc0_5 : l0_5.length ≤ c0_5) (h : truantref09_Reached.f k a0_0 l0_1 a0_2 l0_3 l0_4 l0_5 = some r) :
  Calls Try.prog 18 #[.agg #[.string a0_0, .slice A0_1 l0_1.length c0_1, .string a0_2, .slice A0_3 l0_3.length c0_3, .slice A0_4 l0_4.length c0_4, .slice A0_5 l0_5.length c0_5]] w fun e w' => ∃ v0_ : Value, e = .returned (v0_) ∧ Kd.R Kd.bool 4 w' w.heap.size (fun _ => True) v0_ r ∧ Below w.heap.size w w' := by
 have hu26 := Try.underlying26
 have HR0_1 := Aside0.mk hr0_1
 have HC0_1 := Aside0.mk hc0_1
 clear hr0_1 hc0_1
 have HR0_3 := Aside0.mk hr0_3
 have HC0_3 := Aside0.mk hc0_3
 clear hr0_3 hc0_3
 have HR0_4 := Aside0.mk hr0_4
 have HC0_4 := Aside0.mk hc0_4
 clear hr0_4 hc0_4
 have HR0_5 := Aside0.mk hr0_5
 have HC0_5 := Aside0.mk hc0_5
 clear hr0_5 hc0_5
 have HB := Aside0.mk (Below.refl w.heap.size w)
 have H : (if 0 ≤ (l0_5.length : Int) then (if ((l0_5.length : Int) : Int).toNat ≤ 281474976710656 then ((some (List.replicate ((l0_5.length : Int) : Int).toNat false : List Bool)).bind fun y340 => (if (y340.length : Int) = 0 then (some y340) else (if 0 < (y340.length : Int) then (truantref09_Reached.l0 k (y340.set (0 : Int).toNat true) 0 a0_0 l0_1 a0_2 l0_3 l0_4 l0_5) else (none)))) else (none)) else (none)) = some r := h
 clear h
 by_cases c2 : 0 ≤ (l0_5.length : Int)
 ·rw [if_pos c2] at H
  have c2b0 := eq_true c2
  have c2b1 : decide (0 ≤ (l0_5.length : Int)) = true := decide_eq_true c2
  clear c2
  by_cases c3 : ((l0_5.length : Int) : Int).toNat ≤ 281474976710656
  ·rw [if_pos c3] at H
   have c3b0 := eq_true c3
   have c3b1 : decide (((l0_5.length : Int) : Int).toNat ≤ 281474976710656) = true := decide_eq_true c3
   clear c3
   obtain ⟨y340, hy340⟩ : ∃ y_ : List Bool, y_ = (List.replicate ((l0_5.length : Int) : Int).toNat false) := ⟨_, rfl⟩
   replace H : (if (y340.length : Int) = 0 then (some y340) else (if 0 < (y340.length : Int) then (truantref09_Reached.l0 k (y340.set (0 : Int).toNat true) 0 a0_0 l0_1 a0_2 l0_3 l0_4 l0_5) else (none))) = some r := by first | (rw [hy340]; with_reducible exact H) | (have H2_ := (Option.bind_some _ _).symm.trans H; rw [hy340]; with_reducible exact H2_) | (have H2_ := (Option.bind_some _ _).symm.trans H; with_reducible exact H2_) | with_reducible exact H | (rw [hy340]; exact H) | exact H
   have Ny340 := Aside0.mk hy340
   clear hy340
   by_cases c4 : (y340.length : Int) = 0
   ·rw [if_pos c4] at H
    have c4b0 : ((y340.length : Int) == 0) = true := beq_iff_eq.mpr c4
    have c4b1 : ((y340.length : Int) != 0) = false := bne_eq_false_iff_eq.mpr c4
    clear c4
    obtain rfl := Option.some.inj H
    go_enter Try.func18, Try.ntmps18
    go_wp2_with (first | ((with_reducible refine gate_dst (N := 1) rfl ?_); (try (refine gate_guard (by rfl) ?_; dsimp only)); refine box_event ?hg (N := 1) ?hd (cs := #[.string a0_0, .slice A0_1 l0_1.length c0_1, .string a0_2, .slice A0_3 l0_3.length c0_3, .slice A0_4 l0_4.length c0_4, .slice A0_5 l0_5.length c0_5]) (t := 26) ?hr ?_; (case hd => rfl); (case hg => rfl); (case hr => first | (go_simp; done) | (go_simp; rfl)); intro gb339 hg w5 hbox hb; have n0_ := Aside0.mk (below_step (by repeat (first | (with_reducible first | exact HB.out | apply below_alloc | apply pw_below_drewN | apply below_drew1) | exact HB.out)) hb); have n1_ := Aside0.mk (hbox); have n2_ := Aside0.mk ((by rw [hg]; exact (below_size (by repeat (first | (with_reducible first | exact HB.out | apply below_alloc | apply pw_below_drewN | apply below_drew1) | exact HB.out))) : w.heap.size ≤ gb339)); have n3_ := Aside0.mk ((by rw [hg]; exact (below_size (by repeat (first | (with_reducible first | exact HB.out | apply below_alloc | apply pw_below_drewN | apply below_drew1) | exact HB.out))) : w.heap.size ≤ gb339)); clear HB; have HB := n0_; have BK339 := n1_; have GW339 := n2_; have GE339 := n3_; clear n0_ n1_ n2_ n3_; clear hb hbox hg; have hcz6_0 : w5.cell? ⟨gb339, 0, none⟩ = some (.string a0_0) := (blk_cell BK339.out 0).trans rfl; have hcz6_1 : w5.cell? ⟨gb339, 1, none⟩ = some (.slice A0_1 l0_1.length c0_1) := (blk_cell BK339.out 1).trans rfl; have hcz6_2 : w5.cell? ⟨gb339, 2, none⟩ = some (.string a0_2) := (blk_cell BK339.out 2).trans rfl; have hcz6_3 : w5.cell? ⟨gb339, 3, none⟩ = some (.slice A0_3 l0_3.length c0_3) := (blk_cell BK339.out 3).trans rfl; have hcz6_4 : w5.cell? ⟨gb339, 4, none⟩ = some (.slice A0_4 l0_4.length c0_4) := (blk_cell BK339.out 4).trans rfl; have hcz6_5 : w5.cell? ⟨gb339, 5, none⟩ = some (.slice A0_5 l0_5.length c0_5) := (blk_cell BK339.out 5).trans rfl; have hfz6_0 := blk_frozen BK339.out 0; have hfz6_1 := blk_frozen BK339.out 1; have hfz6_2 := blk_frozen BK339.out 2; have hfz6_3 := blk_frozen BK339.out 3; have hfz6_4 := blk_frozen BK339.out 4; have hfz6_5 := blk_frozen BK339.out 5) | ((with_reducible refine gate_dst (N := 11) rfl ?_); (try (refine gate_guard (by rfl) ?_; dsimp only)); refine Kd.R_make Kd.bool _ 4 rfl (N := 11) rfl 31 _ _ rfl (l0_5.length : Int) rfl rfl Try.underlying31 (.bool false) 1 info4 rfl (by decide) (by omega) false (ok := fun _ => True) (okp := fun _ => True) rfl (fun _ hk => hk) trivial (of_decide_eq_true (by first | (with_reducible assumption) | assumption)) (Nat.le_trans (Nat.mul_le_mul_right _ (of_decide_eq_true (by first | (with_reducible assumption) | assumption) : (l0_5.length : Int).toNat ≤ 281474976710656)) (by omega)) (Below.refl _ _) (Nat.le_refl _) ?_; intro v341 w7 ho8 hb hg_ hnew_; clear hg_ hnew_; (first | rw [← Ny340.out] at ho8 | (simp only [Int.reduceToNat] at ho8; rw [← Ny340.out] at ho8)); have n0_ := Aside0.mk (Kd.R_lower ho8 (below_size (by repeat (first | (with_reducible first | exact HB.out | apply below_alloc | apply pw_below_drewN | apply below_drew1 | refine below_set ?_ GE339.out) | exact HB.out)))); have n1_ := Aside0.mk (blk_below (g := gb339) (o := .cells #[.string a0_0, .slice A0_1 l0_1.length c0_1, .string a0_2, .slice A0_3 l0_3.length c0_3, .slice A0_4 l0_4.length c0_4, .slice A0_5 l0_5.length c0_5] 26 (0, 0)) (by (with_reducible repeat (first | refine blk_drewN ?_ _ | refine blk_drew ?_ | refine blk_alloc ?_ _)); exact BK339.out) hb); have n2_ := Aside0.mk (below_step (by repeat (first | (with_reducible first | exact HB.out | apply below_alloc | apply pw_below_drewN | apply below_drew1 | refine below_set ?_ GE339.out) | exact HB.out)) hb); clear BK339; clear HB; have HO342 := n0_; have BK339 := n1_; have HB := n2_; clear n0_ n1_ n2_; clear hb ho8; obtain ⟨Ao9, co9, eo9⟩ := Kd.R_slice HO342.out; subst eo9))
    go_ret
    exact ⟨_, by first | rfl | (simp [errW_none, errW_some] <;> rfl) | (simp [*, errW_none, errW_some] <;> rfl), by (with_reducible repeat (first | apply Kd.R_alloc | apply Kd.R_drewN | apply Kd.R_drew)); exact HO342.out, by repeat (first | (with_reducible first | exact HB.out | apply below_alloc | apply pw_below_drewN | apply below_drew1 | refine below_set ?_ GE339.out) | exact HB.out)⟩
   ·rw [if_neg c4] at H
    have c4b0 : ((y340.length : Int) == 0) = false := beq_eq_false_iff_ne.mpr c4
    have c4b1 : ((y340.length : Int) != 0) = true := bne_iff_ne.mpr c4
    have c4b2 : ¬ (y340 = []) := fun h_ => c4 (by rw [h_]; rfl)
    by_cases c10 : 0 < (y340.length : Int)
    ·rw [if_pos c10] at H
     have c10b0 : decide (0 < (y340.length : Int)) = true := decide_eq_true c10
     have c10b1 : decide (0 < y340.length) = true := decide_eq_true (by omega)
     clear c10
     obtain ⟨y343, hy343⟩ : ∃ y_ : List Bool, y_ = (y340.set (0 : Int).toNat true) := ⟨_, rfl⟩
     replace H : (truantref09_Reached.l0 k y343 0 a0_0 l0_1 a0_2 l0_3 l0_4 l0_5) = some r := by first | (rw [hy343]; with_reducible exact H) | (have H2_ := (Option.bind_some _ _).symm.trans H; rw [hy343]; with_reducible exact H2_) | (have H2_ := (Option.bind_some _ _).symm.trans H; with_reducible exact H2_) | with_reducible exact H | (rw [hy343]; exact H) | exact H
     have Ny343 := Aside0.mk hy343
     clear hy343
     have H' := Aside0.mk H
     clear H
     go_enter Try.func18, Try.ntmps18
     go_wp2_with (first | ((with_reducible refine gate_dst (N := 1) rfl ?_); (try (refine gate_guard (by rfl) ?_; dsimp only)); refine box_event ?hg (N := 1) ?hd (cs := #[.string a0_0, .slice A0_1 l0_1.length c0_1, .string a0_2, .slice A0_3 l0_3.length c0_3, .slice A0_4 l0_4.length c0_4, .slice A0_5 l0_5.length c0_5]) (t := 26) ?hr ?_; (case hd => rfl); (case hg => rfl); (case hr => first | (go_simp; done) | (go_simp; rfl)); intro gb339 hg w12 hbox hb; have n0_ := Aside0.mk (below_step (by repeat (first | (with_reducible first | exact HB.out | apply below_alloc | apply pw_below_drewN | apply below_drew1) | exact HB.out)) hb); have n1_ := Aside0.mk (hbox); have n2_ := Aside0.mk ((by rw [hg]; exact (below_size (by repeat (first | (with_reducible first | exact HB.out | apply below_alloc | apply pw_below_drewN | apply below_drew1) | exact HB.out))) : w.heap.size ≤ gb339)); have n3_ := Aside0.mk ((by rw [hg]; exact (below_size (by repeat (first | (with_reducible first | exact HB.out | apply below_alloc | apply pw_below_drewN | apply below_drew1) | exact HB.out))) : w.heap.size ≤ gb339)); clear HB; have HB := n0_; have BK339 := n1_; have GW339 := n2_; have GE339 := n3_; clear n0_ n1_ n2_ n3_; clear hb hbox hg; have hcz13_0 : w12.cell? ⟨gb339, 0, none⟩ = some (.string a0_0) := (blk_cell BK339.out 0).trans rfl; have hcz13_1 : w12.cell? ⟨gb339, 1, none⟩ = some (.slice A0_1 l0_1.length c0_1) := (blk_cell BK339.out 1).trans rfl; have hcz13_2 : w12.cell? ⟨gb339, 2, none⟩ = some (.string a0_2) := (blk_cell BK339.out 2).trans rfl; have hcz13_3 : w12.cell? ⟨gb339, 3, none⟩ = some (.slice A0_3 l0_3.length c0_3) := (blk_cell BK339.out 3).trans rfl; have hcz13_4 : w12.cell? ⟨gb339, 4, none⟩ = some (.slice A0_4 l0_4.length c0_4) := (blk_cell BK339.out 4).trans rfl; have hcz13_5 : w12.cell? ⟨gb339, 5, none⟩ = some (.slice A0_5 l0_5.length c0_5) := (blk_cell BK339.out 5).trans rfl; have hfz13_0 := blk_frozen BK339.out 0; have hfz13_1 := blk_frozen BK339.out 1; have hfz13_2 := blk_frozen BK339.out 2; have hfz13_3 := blk_frozen BK339.out 3; have hfz13_4 := blk_frozen BK339.out 4; have hfz13_5 := blk_frozen BK339.out 5) | ((with_reducible refine gate_dst (N := 11) rfl ?_); (try (refine gate_guard (by rfl) ?_; dsimp only)); refine Kd.R_make Kd.bool _ 4 rfl (N := 11) rfl 31 _ _ rfl (l0_5.length : Int) rfl rfl Try.underlying31 (.bool false) 1 info4 rfl (by decide) (by omega) false (ok := fun _ => True) (okp := fun _ => True) rfl (fun _ hk => hk) trivial (of_decide_eq_true (by first | (with_reducible assumption) | assumption)) (Nat.le_trans (Nat.mul_le_mul_right _ (of_decide_eq_true (by first | (with_reducible assumption) | assumption) : (l0_5.length : Int).toNat ≤ 281474976710656)) (by omega)) (Below.refl _ _) (Nat.le_refl _) ?_; intro v341 w14 ho15 hb hg_ hnew_; clear hg_ hnew_; (first | rw [← Ny340.out] at ho15 | (simp only [Int.reduceToNat] at ho15; rw [← Ny340.out] at ho15)); have n0_ := Aside0.mk (Kd.R_lower ho15 (below_size (by repeat (first | (with_reducible first | exact HB.out | apply below_alloc | apply pw_below_drewN | apply below_drew1 | refine below_set ?_ GE339.out) | exact HB.out)))); have n1_ := Aside0.mk (blk_below (g := gb339) (o := .cells #[.string a0_0, .slice A0_1 l0_1.length c0_1, .string a0_2, .slice A0_3 l0_3.length c0_3, .slice A0_4 l0_4.length c0_4, .slice A0_5 l0_5.length c0_5] 26 (0, 0)) (by (with_reducible repeat (first | refine blk_drewN ?_ _ | refine blk_drew ?_ | refine blk_alloc ?_ _)); exact BK339.out) hb); have n2_ := Aside0.mk (below_step (by repeat (first | (with_reducible first | exact HB.out | apply below_alloc | apply pw_below_drewN | apply below_drew1 | refine below_set ?_ GE339.out) | exact HB.out)) hb); clear BK339; clear HB; have HO342 := n0_; have BK339 := n1_; have HB := n2_; clear n0_ n1_ n2_; clear hb ho15; obtain ⟨Ao16, co16, eo16⟩ := Kd.R_slice HO342.out; subst eo16; have p11 : 0 ≤ (0 : Int) := (by omega); have q11 : (0 : Int) < ((y340.length : Int) : Int) := of_decide_eq_true (by first | (with_reducible assumption) | assumption); have qi11 : (0 < y340.length) = True := eq_true (by omega); obtain ⟨go11, co11, eo11, gb11, gl11, cl11, HG11⟩ := Kd.R_form HO342.out (by omega); (first | cases eo11 | (injection eo11 with ea_ en_ ec_; (first | subst ea_ | (injection ea_ with ea_; subst ea_)); subst ec_; clear en_)); have GB11 := Aside0.mk gb11; have GG11 := Aside0.mk HG11; clear gb11 gl11 HG11; obtain ⟨hx11_0, hf11_0⟩ := Kd.R_celln false HO342.out (0 : Int) p11 q11; (try rw [show ((0 : Int)).toNat = 0 from rfl] at hx11_0); (try simp only [Nat.reduceMul, Nat.zero_mul, Nat.zero_add, Nat.reduceAdd] at hx11_0); (try rw [show ((0 : Int)).toNat = 0 from rfl] at hf11_0); (try simp only [Nat.reduceMul, Nat.zero_mul, Nat.zero_add, Nat.reduceAdd] at hf11_0); replace p11 := eq_true p11; replace q11 := eq_true q11; obtain ⟨hy17_, hz17_⟩ := Kd.R_celln false HO342.out (0 : Int) (by omega) (of_decide_eq_true (by first | (with_reducible assumption) | assumption)); (try simp only [Int.reduceToNat, Int.toNat_zero, Int.toNat_ofNat, Nat.reduceMul, Nat.zero_mul, Nat.zero_add] at hy17_ hz17_); (try rw [show ((0 : Int)).toNat = 0 from rfl] at hy17_); (try rw [show ((0 : Int)).toNat = 0 from rfl] at hz17_); have HP17 := Kd.R_putg HO342.out (0 : Int) true) | ((with_reducible refine gate_store (t := 4) (p := 17) rfl ?_); refine store_event (t := 4) (p := 17) (v := ?vo_w18) (w1 := (w14.setCell ⟨go11, (0 : Int).toNat, none⟩ (.bool true))) ?hg ?ho ?hn ?hr ?_; (case ho => rfl); (case hg => rfl); (case hn => rfl); (case hr => first | (go_simp; done) | (go_simp; rfl)); intro w18 hw; have hg : w14.grownBy w18 (some go11) := (by rw [hw]; exact HP17.2); have hp_ : Kd.R Kd.bool 4 w18 w.heap.size (fun _ => True) (.slice (some ⟨go11, 0, none⟩) y340.length co16) y343 := (by rw [hw, Ny343.out]; exact HP17.1); clear HP17; have n0_ := Aside0.mk (blk_grown (g := gb339) (o := .cells #[.string a0_0, .slice A0_1 l0_1.length c0_1, .string a0_2, .slice A0_3 l0_3.length c0_3, .slice A0_4 l0_4.length c0_4, .slice A0_5 l0_5.length c0_5] 26 (0, 0)) (by (with_reducible repeat (first | refine blk_drewN ?_ _ | refine blk_drew ?_ | refine blk_alloc ?_ _)); exact BK339.out) hg (Kd.R_ne HO342.out BK339.out (by decide))); have n1_ := Aside0.mk (hp_); have n2_ := Aside0.mk ((by rw [hw]; exact below_set (HB.out) GB11.out : Below w.heap.size w w18)); clear BK339; clear HO342; clear HB; have BK339 := n0_; have HO342 := n1_; have HB := n2_; clear n0_ n1_ n2_; clear hg hw hp_))
     go_loopg [4] k (fun kq v4 w' => ∃ (x3_1 : List Bool) (x4_1 : Int), v4 = .int .i64 x4_1 ∧ Aside0 (truantref09_Reached.l0 kq x3_1 x4_1 a0_0 l0_1 a0_2 l0_3 l0_4 l0_5 = some r) ∧ Aside0 (kq ≤ k) ∧ Aside0 (Kd.R Kd.bool 4 w' w.heap.size (fun _ => True) (.slice (some ⟨go11, 0, none⟩) y340.length co16) x3_1) ∧ Aside0 (w'.heap[gb339]? = some (.cells #[.string a0_0, (.slice A0_1 l0_1.length c0_1), .string a0_2, (.slice A0_3 l0_3.length c0_3), (.slice A0_4 l0_4.length c0_4), (.slice A0_5 l0_5.length c0_5)] 26 (0, 0))) ∧ Aside0 (Below w.heap.size w w'))
     case atStart => exact ⟨(y343), (0), (by first | rfl | (simp; done) | (simp [*]; done)), H', ⟨Nat.le_refl _⟩, ⟨by (with_reducible repeat (first | apply Kd.R_alloc | apply Kd.R_drewN | apply Kd.R_drew)); exact HO342.out⟩, ⟨by (with_reducible repeat (first | refine blk_drewN ?_ _ | refine blk_drew ?_ | refine blk_alloc ?_ _)); exact BK339.out⟩, ⟨by repeat (first | (with_reducible first | exact HB.out | apply below_alloc | apply pw_below_drewN | apply below_drew1 | refine below_set ?_ GE339.out) | exact HB.out)⟩⟩
     case round =>
      clear H'
      try clear c1
      try clear p1
      try clear q1
      try clear hx1
      try clear qi1
      try clear hf1
      try clear c2
      try clear c2b0
      try clear c2b1
      try clear p2
      try clear c3
      try clear c3b0
      try clear c3b1
      try clear c4
      try clear c4b0
      try clear c4b1
      try clear c4b2
      try clear c10
      try clear c10b0
      try clear c10b1
      try clear p11
      try clear q11
      try clear hx11
      try clear qi11
      try clear hf11
      try clear c18
      try clear hcz13_0
      try clear hcz13_1
      try clear hcz13_2
      try clear hcz13_3
      try clear hcz13_4
      try clear hcz13_5
      try clear hcz6_0
      try clear hcz6_1
      try clear hcz6_2
      try clear hcz6_3
      try clear hcz6_4
      try clear hcz6_5
      try clear hfz13_0
      try clear hfz13_1
      try clear hfz13_2
      try clear hfz13_3
      try clear hfz13_4
      try clear hfz13_5
      try clear hfz6_0
      try clear hfz6_1
      try clear hfz6_2
      try clear hfz6_3
      try clear hfz6_4
      try clear hfz6_5
      try clear hx11_0
      try clear p11
      try clear q11
      obtain ⟨x3_1, x4_1, rfl, HA, HK1, HO_3, BK339, HB⟩ := hrel
      have hl3_1 := (Kd.R_reads' HO_3.out).1
      rw [hl3_1] at HO_3
      (try simp only [hl3_1])
      (try simp only [hl3_1] at BK339)
      cases gk with
      | zero => exact absurd HA.out (by simp [truantref09_Reached.l0])
      | succ k1 =>
       have H := HA.out
       clear HA
       simp only [truantref09_Reached.l0] at H
       by_cases c19 : x4_1 < (x3_1.length : Int)
       ·rw [if_pos c19] at H
        have c19b0 : decide (x4_1 < (x3_1.length : Int)) = true := decide_eq_true c19
        clear c19
        have H' := Aside0.mk H
        clear H
        go_wp2
        go_loopg [5] k1 (fun kq v5 w' => ∃ (x3_2 : List Bool) (x5_2 : Int), v5 = .int .i64 x5_2 ∧ Aside0 (truantref09_Reached.l1 kq x3_2 x4_1 x5_2 a0_0 l0_1 a0_2 l0_3 l0_4 l0_5 = some r) ∧ Aside0 (kq ≤ k1) ∧ Aside0 (Kd.R Kd.bool 4 w' w.heap.size (fun _ => True) (.slice (some ⟨go11, 0, none⟩) x3_1.length co16) x3_2) ∧ Aside0 (w'.heap[gb339]? = some (.cells #[.string a0_0, (.slice A0_1 l0_1.length c0_1), .string a0_2, (.slice A0_3 l0_3.length c0_3), (.slice A0_4 l0_4.length c0_4), (.slice A0_5 l0_5.length c0_5)] 26 (0, 0))) ∧ Aside0 (Below w.heap.size w w'))
        case atStart => exact ⟨(x3_1), (0), (by first | rfl | (simp; done) | (simp [*]; done)), H', ⟨Nat.le_refl _⟩, ⟨by (try simp only [hl3_1]); (with_reducible repeat (first | apply Kd.R_alloc | apply Kd.R_drewN | apply Kd.R_drew)); exact HO_3.out⟩, ⟨by (try simp only [hl3_1]); (with_reducible repeat (first | refine blk_drewN ?_ _ | refine blk_drew ?_ | refine blk_alloc ?_ _)); exact BK339.out⟩, ⟨by repeat (first | (with_reducible first | exact HB.out | apply below_alloc | apply pw_below_drewN | apply below_drew1 | refine below_set ?_ GE339.out) | exact HB.out)⟩⟩
        case round =>
         clear H'
         try clear c1
         try clear p1
         try clear q1
         try clear hx1
         try clear qi1
         try clear hf1
         try clear c2
         try clear c2b0
         try clear c2b1
         try clear p2
         try clear c3
         try clear c3b0
         try clear c3b1
         try clear c4
         try clear c4b0
         try clear c4b1
         try clear c4b2
         try clear c10
         try clear c10b0
         try clear c10b1
         try clear p11
         try clear q11
         try clear hx11
         try clear qi11
         try clear hf11
         try clear c18
         try clear c19
         try clear c19b0
         try clear hcz13_0
         try clear hcz13_1
         try clear hcz13_2
         try clear hcz13_3
         try clear hcz13_4
         try clear hcz13_5
         try clear hcz6_0
         try clear hcz6_1
         try clear hcz6_2
         try clear hcz6_3
         try clear hcz6_4
         try clear hcz6_5
         try clear hfz13_0
         try clear hfz13_1
         try clear hfz13_2
         try clear hfz13_3
         try clear hfz13_4
         try clear hfz13_5
         try clear hfz6_0
         try clear hfz6_1
         try clear hfz6_2
         try clear hfz6_3
         try clear hfz6_4
         try clear hfz6_5
         try clear hx11_0
         try clear p1
         try clear p11
         try clear p2
         try clear q1
         try clear q11
         obtain ⟨x3_2, x5_2, rfl, HA, HK2, HO_3, BK339, HB⟩ := hrel
         have hl3_2 := (Kd.R_reads' HO_3.out).1
         rw [hl3_2] at HO_3
         (try simp only [hl3_2])
         (try simp only [hl3_2] at BK339)
         cases gk with
         | zero => exact absurd HA.out (by simp [truantref09_Reached.l1])
         | succ k2 =>
          have H := HA.out
          clear HA
          simp only [truantref09_Reached.l1] at H
          by_cases c20 : x5_2 < (x3_2.length : Int)
          ·rw [if_pos c20] at H
           have c20b0 : decide (x5_2 < (x3_2.length : Int)) = true := decide_eq_true c20
           clear c20
           replace H := Option.bind_eq_some_iff.mp H
           obtain ⟨t344, A210, H⟩ := H
           replace H : (truantref09_Reached.l2 k2 x3_2 x4_1 x5_2 t344 0 a0_0 l0_1 a0_2 l0_3 l0_4 l0_5) = some r := H
           have A21 := Aside0.mk A210
           clear A210
           have H' := Aside0.mk H
           clear H
           have hcz22_0 : wr.cell? ⟨gb339, 0, none⟩ = some (.string a0_0) := (blk_cell BK339.out 0).trans rfl
           have hcz22_1 : wr.cell? ⟨gb339, 1, none⟩ = some (.slice A0_1 l0_1.length c0_1) := (blk_cell BK339.out 1).trans rfl
           have hcz22_2 : wr.cell? ⟨gb339, 2, none⟩ = some (.string a0_2) := (blk_cell BK339.out 2).trans rfl
           have hcz22_3 : wr.cell? ⟨gb339, 3, none⟩ = some (.slice A0_3 l0_3.length c0_3) := (blk_cell BK339.out 3).trans rfl
           have hcz22_4 : wr.cell? ⟨gb339, 4, none⟩ = some (.slice A0_4 l0_4.length c0_4) := (blk_cell BK339.out 4).trans rfl
           have hcz22_5 : wr.cell? ⟨gb339, 5, none⟩ = some (.slice A0_5 l0_5.length c0_5) := (blk_cell BK339.out 5).trans rfl
           have hfz22_0 := blk_frozen BK339.out 0
           have hfz22_1 := blk_frozen BK339.out 1
           have hfz22_2 := blk_frozen BK339.out 2
           have hfz22_3 := blk_frozen BK339.out 3
           have hfz22_4 := blk_frozen BK339.out 4
           have hfz22_5 := blk_frozen BK339.out 5
           go_wp2_with (first | ((with_reducible refine gate_callee (f := 21) rfl ?_); refine goesL_ (some 32) rfl rfl Try.func21 (by kernel_rfl) rfl #[.agg #[.string a0_0, .slice A0_1 l0_1.length c0_1, .string a0_2, .slice A0_3 l0_3.length c0_3, .slice A0_4 l0_4.length c0_4, .slice A0_5 l0_5.length c0_5], .int .i64 x5_2] rfl (by (try simp only [List.map_toArray, List.map_cons, List.map_nil]); first | done | rfl | (simp only [List.length_drop, List.length_take]; rfl)) ?_; (with_reducible refine (truantref09_Next.calls k2 a0_0 _ _ l0_1 a0_2 _ _ l0_3 _ _ l0_4 _ _ l0_5 x5_2 t344 _ ?side1 ?side2 ?side3 ?side4 ?side5 ?side6 ?side7 ?side8 A21.out).mono ?_); (case side1 => repeat (first | exact (Kd.C_below HR0_1.out HB.out) | (with_reducible refine Kd.C_alloc ?_ _) | (with_reducible refine Kd.C_drewN ?_ _) | (with_reducible refine Kd.C_drew ?_))); (case side2 => exact HC0_1.out); (case side3 => repeat (first | exact (Kd.C_below HR0_3.out HB.out) | (with_reducible refine Kd.C_alloc ?_ _) | (with_reducible refine Kd.C_drewN ?_ _) | (with_reducible refine Kd.C_drew ?_))); (case side4 => exact HC0_3.out); (case side5 => repeat (first | exact (Kd.C_below HR0_4.out HB.out) | (with_reducible refine Kd.C_alloc ?_ _) | (with_reducible refine Kd.C_drewN ?_ _) | (with_reducible refine Kd.C_drew ?_))); (case side6 => exact HC0_4.out); (case side7 => repeat (first | exact (Kd.C_below HR0_5.out HB.out) | (with_reducible refine Kd.C_alloc ?_ _) | (with_reducible refine Kd.C_drewN ?_ _) | (with_reducible refine Kd.C_drew ?_))); (case side8 => exact HC0_5.out); rintro e w23 ⟨v345, rfl, ho0, hb⟩; refine ⟨_, rfl, ?_⟩; have n0_ := Aside0.mk (Kd.R_below (by (with_reducible repeat (first | apply Kd.R_alloc | apply Kd.R_drewN | apply Kd.R_drew)); exact HO_3.out) hb); have n1_ := Aside0.mk (Kd.R_lower ho0 (below_size (by repeat (first | (with_reducible first | exact HB.out | apply below_alloc | apply pw_below_drewN | apply below_drew1 | refine below_set ?_ GE339.out) | exact HB.out)))); have n2_ := Aside0.mk (blk_below (g := gb339) (o := .cells #[.string a0_0, .slice A0_1 l0_1.length c0_1, .string a0_2, .slice A0_3 l0_3.length c0_3, .slice A0_4 l0_4.length c0_4, .slice A0_5 l0_5.length c0_5] 26 (0, 0)) (by (with_reducible repeat (first | refine blk_drewN ?_ _ | refine blk_drew ?_ | refine blk_alloc ?_ _)); exact BK339.out) hb); have n3_ := Aside0.mk (below_step (by repeat (first | (with_reducible first | exact HB.out | apply below_alloc | apply pw_below_drewN | apply below_drew1 | refine below_set ?_ GE339.out) | exact HB.out)) hb); clear HO_3; clear BK339; clear HB; have HO_3 := n0_; have HO346 := n1_; have BK339 := n2_; have HB := n3_; clear n0_ n1_ n2_ n3_; (try clear hb); (try clear hb2); (try clear hk); (try clear hi); (try clear ho0)))
           go_loopg [7] k2 (fun kq v7 w' => ∃ (x3_3 : List Bool) (x7_3 : Int), v7 = .int .i64 x7_3 ∧ Aside0 (truantref09_Reached.l2 kq x3_3 x4_1 x5_2 t344 x7_3 a0_0 l0_1 a0_2 l0_3 l0_4 l0_5 = some r) ∧ Aside0 (kq ≤ k2) ∧ Aside0 (Kd.R Kd.bool 4 w' w.heap.size (fun _ => True) (.slice (some ⟨go11, 0, none⟩) x3_2.length co16) x3_3) ∧ Aside0 (Kd.R (Kd.int .i64) 3 w' w.heap.size (fun _ => True) v345 t344) ∧ Aside0 (w'.heap[gb339]? = some (.cells #[.string a0_0, (.slice A0_1 l0_1.length c0_1), .string a0_2, (.slice A0_3 l0_3.length c0_3), (.slice A0_4 l0_4.length c0_4), (.slice A0_5 l0_5.length c0_5)] 26 (0, 0))) ∧ Aside0 (Below w.heap.size w w'))
           case atStart => exact ⟨(x3_2), (0), (by first | rfl | (simp; done) | (simp [*]; done)), H', ⟨Nat.le_refl _⟩, ⟨by (try simp only [hl3_1]); (try simp only [hl3_2]); (with_reducible repeat (first | apply Kd.R_alloc | apply Kd.R_drewN | apply Kd.R_drew)); exact HO_3.out⟩, ⟨by (try simp only [hl3_1]); (try simp only [hl3_2]); (with_reducible repeat (first | apply Kd.R_alloc | apply Kd.R_drewN | apply Kd.R_drew)); exact HO346.out⟩, ⟨by (try simp only [hl3_1]); (try simp only [hl3_2]); (with_reducible repeat (first | refine blk_drewN ?_ _ | refine blk_drew ?_ | refine blk_alloc ?_ _)); exact BK339.out⟩, ⟨by repeat (first | (with_reducible first | exact HB.out | apply below_alloc | apply pw_below_drewN | apply below_drew1 | refine below_set ?_ GE339.out) | exact HB.out)⟩⟩
           case round =>
            clear H'
            try clear c1
            try clear p1
            try clear q1
            try clear hx1
            try clear qi1
            try clear hf1
            try clear c2
            try clear c2b0
            try clear c2b1
            try clear p2
            try clear c3
            try clear c3b0
            try clear c3b1
            try clear c4
            try clear c4b0
            try clear c4b1
            try clear c4b2
            try clear c10
            try clear c10b0
            try clear c10b1
            try clear p11
            try clear q11
            try clear hx11
            try clear qi11
            try clear hf11
            try clear c18
            try clear c19
            try clear c19b0
            try clear c20
            try clear c20b0
            try clear c21
            try clear hcz13_0
            try clear hcz13_1
            try clear hcz13_2
            try clear hcz13_3
            try clear hcz13_4
            try clear hcz13_5
            try clear hcz22_0
            try clear hcz22_1
            try clear hcz22_2
            try clear hcz22_3
            try clear hcz22_4
            try clear hcz22_5
            try clear hcz6_0
            try clear hcz6_1
            try clear hcz6_2
            try clear hcz6_3
            try clear hcz6_4
            try clear hcz6_5
            try clear hfz13_0
            try clear hfz13_1
            try clear hfz13_2
            try clear hfz13_3
            try clear hfz13_4
            try clear hfz13_5
            try clear hfz22_0
            try clear hfz22_1
            try clear hfz22_2
            try clear hfz22_3
            try clear hfz22_4
            try clear hfz22_5
            try clear hfz6_0
            try clear hfz6_1
            try clear hfz6_2
            try clear hfz6_3
            try clear hfz6_4
            try clear hfz6_5
            try clear hx11_0
            try clear p1
            try clear p11
            try clear p2
            try clear q1
            try clear q11
            obtain ⟨x3_3, x7_3, rfl, HA, HK3, HO_3, HO_6, BK339, HB⟩ := hrel
            have hl3_3 := (Kd.R_reads' HO_3.out).1
            rw [hl3_3] at HO_3
            (try simp only [hl3_3])
            (try simp only [hl3_3] at BK339)
            (try simp only [hl3_3] at HO_6)
            cases gk with
            | zero => exact absurd HA.out (by simp [truantref09_Reached.l2])
            | succ k3 =>
             have H := HA.out
             clear HA
             simp only [truantref09_Reached.l2] at H
             by_cases c24 : 0 ≤ x5_2
             ·rw [if_pos c24] at H
              have c24b0 : decide (0 ≤ x5_2) = true := decide_eq_true c24
              clear c24
              by_cases c25 : x5_2 < (x3_3.length : Int)
              ·rw [if_pos c25] at H
               have c25b0 : decide (x5_2 < (x3_3.length : Int)) = true := decide_eq_true c25
               clear c25
               obtain ⟨bq26, hbq26⟩ : ∃ b_ : Bool, b_ = (rdOf false x3_3 x5_2) := ⟨_, rfl⟩
               replace H : (if bq26 = true then (if x7_3 < (t344.length : Int) then (if 0 ≤ x7_3 then (if 0 ≤ (rd t344 x7_3) then (if (rd t344 x7_3) < (x3_3.length : Int) then (truantref09_Reached.l2 k3 (x3_3.set ((rd t344 x7_3) : Int).toNat true) x4_1 x5_2 t344 (wrap64 (x7_3 + 1)) a0_0 l0_1 a0_2 l0_3 l0_4 l0_5) else (none)) else (none)) else (none)) else (truantref09_Reached.l1 k3 x3_3 x4_1 (wrap64 (x5_2 + 1)) a0_0 l0_1 a0_2 l0_3 l0_4 l0_5)) else (truantref09_Reached.l1 k3 x3_3 x4_1 (wrap64 (x5_2 + 1)) a0_0 l0_1 a0_2 l0_3 l0_4 l0_5)) = some r := by rw [← hbq26] at H; exact H
               have Nbq26 := Aside0.mk hbq26
               clear hbq26
               by_cases c27 : bq26 = true
               ·subst c27
                have H1 : (if x7_3 < (t344.length : Int) then (if 0 ≤ x7_3 then (if 0 ≤ (rd t344 x7_3) then (if (rd t344 x7_3) < (x3_3.length : Int) then (truantref09_Reached.l2 k3 (x3_3.set ((rd t344 x7_3) : Int).toNat true) x4_1 x5_2 t344 (wrap64 (x7_3 + 1)) a0_0 l0_1 a0_2 l0_3 l0_4 l0_5) else (none)) else (none)) else (none)) else (truantref09_Reached.l1 k3 x3_3 x4_1 (wrap64 (x5_2 + 1)) a0_0 l0_1 a0_2 l0_3 l0_4 l0_5)) = some r := by rw [if_pos rfl] at H; exact H
                clear H
                have H := H1
                clear H1
                by_cases c28 : x7_3 < (t344.length : Int)
                ·rw [if_pos c28] at H
                 have c28b0 : decide (x7_3 < (t344.length : Int)) = true := decide_eq_true c28
                 clear c28
                 by_cases c29 : 0 ≤ x7_3
                 ·rw [if_pos c29] at H
                  have c29b0 : decide (0 ≤ x7_3) = true := decide_eq_true c29
                  clear c29
                  by_cases c30 : 0 ≤ (rd t344 x7_3)
                  ·rw [if_pos c30] at H
                   have c30b0 : decide (0 ≤ (rd t344 x7_3)) = true := decide_eq_true c30
                   clear c30
                   by_cases c31 : (rd t344 x7_3) < (x3_3.length : Int)
                   ·rw [if_pos c31] at H
                    have c31b0 : decide ((rd t344 x7_3) < (x3_3.length : Int)) = true := decide_eq_true c31
                    clear c31
                    obtain ⟨y349, hy349⟩ : ∃ y_ : List Bool, y_ = (x3_3.set ((rd t344 x7_3) : Int).toNat true) := ⟨_, rfl⟩
                    replace H : (truantref09_Reached.l2 k3 y349 x4_1 x5_2 t344 (wrap64 (x7_3 + 1)) a0_0 l0_1 a0_2 l0_3 l0_4 l0_5) = some r := by first | (rw [hy349]; with_reducible exact H) | (have H2_ := (Option.bind_some _ _).symm.trans H; rw [hy349]; with_reducible exact H2_) | (have H2_ := (Option.bind_some _ _).symm.trans H; with_reducible exact H2_) | with_reducible exact H | (rw [hy349]; exact H) | exact H
                    have Ny349 := Aside0.mk hy349
                    clear hy349
                    have H' := Aside0.mk H
                    clear H
                    have p347 : 0 ≤ (x5_2 : Int) := of_decide_eq_true (by first | (with_reducible assumption) | assumption)
                    have q347 : x5_2 < (x3_3.length : Int) := of_decide_eq_true (by first | (with_reducible assumption) | assumption)
                    obtain ⟨ad347, e347, hx347_0⟩ := Kd.at_bool (Kd.R_reads' HO_3.out).2.2 x5_2 p347 q347
                    (try rw [← Nbq26.out] at hx347_0)
                    obtain rfl : (⟨go11, 0, none⟩ : Addr) = ad347 := (by injection e347)
                    (first | simp only [add_plain] at hx347_0 | simp only [add_at] at hx347_0 | simp only [Addr.add, Nat.zero_add] at hx347_0 | skip)
                    replace p347 := eq_true p347
                    replace q347 := eq_true q347
                    obtain ⟨Ao33, co33, eo33⟩ := Kd.R_slice HO_6.out
                    subst eo33
                    have p348 : 0 ≤ (x7_3 : Int) := of_decide_eq_true (by first | (with_reducible assumption) | assumption)
                    have q348 : x7_3 < (t344.length : Int) := of_decide_eq_true (by first | (with_reducible assumption) | assumption)
                    obtain ⟨ad348, e348, hx348_0⟩ := Kd.at_int (Kd.R_reads' HO_6.out).2.2 x7_3 p348 q348
                    cases e348
                    replace p348 := eq_true p348
                    replace q348 := eq_true q348
                    have p32 : 0 ≤ ((rd t344 x7_3) : Int) := of_decide_eq_true (by first | (with_reducible assumption) | assumption)
                    have q32 : ((rd t344 x7_3) : Int) < ((x3_3.length : Int) : Int) := of_decide_eq_true (by first | (with_reducible assumption) | assumption)
                    obtain ⟨hx32_0, hf32_0⟩ := Kd.R_celln false HO_3.out ((rd t344 x7_3) : Int) p32 q32
                    replace p32 := eq_true p32
                    replace q32 := eq_true q32
                    have HP34 := Kd.R_putg HO_3.out ((rd t344 x7_3) : Int) true
                    go_wp2_with (first | ((with_reducible refine gate_store (t := 4) (p := 50) rfl ?_); refine store_event (t := 4) (p := 50) (v := ?vo_w35) (w1 := (wr.setCell ⟨go11, ((rd t344 x7_3) : Int).toNat, none⟩ (.bool true))) ?hg ?ho ?hn ?hr ?_; (case ho => rfl); (case hg => rfl); (case hn => rfl); (case hr => first | (go_simp; done) | (go_simp; rfl)); intro w35 hw; have hg : wr.grownBy w35 (some go11) := (by rw [hw]; exact HP34.2); have hp_ : Kd.R Kd.bool 4 w35 w.heap.size (fun _ => True) (.slice (some ⟨go11, 0, none⟩) x3_3.length co16) y349 := (by rw [hw, Ny349.out]; exact HP34.1); clear HP34; have n0_ := Aside0.mk (hp_); have n1_ := Aside0.mk (Kd.R_over' (v := (.slice (some ⟨go11, 0, none⟩) x3_3.length co16)) (by (with_reducible repeat (first | apply Kd.R_alloc | apply Kd.R_drewN | apply Kd.R_drew)); exact HO_6.out) (Kd.R_typed HO_3.out) (by decide) hg); have n2_ := Aside0.mk (blk_grown (g := gb339) (o := .cells #[.string a0_0, .slice A0_1 l0_1.length c0_1, .string a0_2, .slice A0_3 l0_3.length c0_3, .slice A0_4 l0_4.length c0_4, .slice A0_5 l0_5.length c0_5] 26 (0, 0)) (by (with_reducible repeat (first | refine blk_drewN ?_ _ | refine blk_drew ?_ | refine blk_alloc ?_ _)); exact BK339.out) hg (Kd.R_ne HO_3.out BK339.out (by decide))); have n3_ := Aside0.mk ((by rw [hw]; exact below_set (HB.out) GB11.out : Below w.heap.size w w35)); clear HO_3; clear HO_6; clear BK339; clear HB; have HO_3 := n0_; have HO_6 := n1_; have BK339 := n2_; have HB := n3_; clear n0_ n1_ n2_ n3_; clear hg hw hp_))
                    (try simp only [← hl3_3])
                    go_roundg k3
                    case measure => have := HK1.out; have := HK2.out; have := HK3.out; omega
                    case rel => exact ⟨(y349), (wrap64 (x7_3 + 1)), (by first | rfl | (simp; done) | (simp [*]; done)), H', ⟨by have := HK1.out; have := HK2.out; have := HK3.out; omega⟩, ⟨by (try simp only [hl3_1]); (try simp only [hl3_2]); (try simp only [hl3_3]); (with_reducible repeat (first | apply Kd.R_alloc | apply Kd.R_drewN | apply Kd.R_drew)); exact HO_3.out⟩, ⟨by (try simp only [hl3_1]); (try simp only [hl3_2]); (try simp only [hl3_3]); (with_reducible repeat (first | apply Kd.R_alloc | apply Kd.R_drewN | apply Kd.R_drew)); exact HO_6.out⟩, ⟨by (try simp only [hl3_1]); (try simp only [hl3_2]); (try simp only [hl3_3]); (with_reducible repeat (first | refine blk_drewN ?_ _ | refine blk_drew ?_ | refine blk_alloc ?_ _)); exact BK339.out⟩, ⟨by repeat (first | (with_reducible first | exact HB.out | apply below_alloc | apply pw_below_drewN | apply below_drew1 | refine below_set ?_ GE339.out) | exact HB.out)⟩⟩
                   ·rw [if_neg c31] at H
                    exact absurd H (by simp)
                  ·rw [if_neg c30] at H
                   exact absurd H (by simp)
                 ·rw [if_neg c29] at H
                  exact absurd H (by simp)
                ·rw [if_neg c28] at H
                 have c28b0 : decide (x7_3 < (t344.length : Int)) = false := decide_eq_false c28
                 clear c28
                 have H' := Aside0.mk H
                 clear H
                 have p347 : 0 ≤ (x5_2 : Int) := of_decide_eq_true (by first | (with_reducible assumption) | assumption)
                 have q347 : x5_2 < (x3_3.length : Int) := of_decide_eq_true (by first | (with_reducible assumption) | assumption)
                 obtain ⟨ad347, e347, hx347_0⟩ := Kd.at_bool (Kd.R_reads' HO_3.out).2.2 x5_2 p347 q347
                 (try rw [← Nbq26.out] at hx347_0)
                 obtain rfl : (⟨go11, 0, none⟩ : Addr) = ad347 := (by injection e347)
                 (first | simp only [add_plain] at hx347_0 | simp only [add_at] at hx347_0 | simp only [Addr.add, Nat.zero_add] at hx347_0 | skip)
                 replace p347 := eq_true p347
                 replace q347 := eq_true q347
                 obtain ⟨Ao36, co36, eo36⟩ := Kd.R_slice HO_6.out
                 subst eo36
                 go_wp2
                 (try simp only [← hl3_2, ← hl3_3])
                 go_roundg k3
                 case measure => have := HK1.out; have := HK2.out; have := HK3.out; omega
                 case rel => exact ⟨(x3_3), (wrap64 (x5_2 + 1)), (by first | rfl | (simp; done) | (simp [*]; done)), H', ⟨by have := HK1.out; have := HK2.out; have := HK3.out; omega⟩, ⟨by (try simp only [hl3_1]); (try simp only [hl3_2]); (try simp only [hl3_3]); (with_reducible repeat (first | apply Kd.R_alloc | apply Kd.R_drewN | apply Kd.R_drew)); exact HO_3.out⟩, ⟨by (try simp only [hl3_1]); (try simp only [hl3_2]); (try simp only [hl3_3]); (with_reducible repeat (first | refine blk_drewN ?_ _ | refine blk_drew ?_ | refine blk_alloc ?_ _)); exact BK339.out⟩, ⟨by repeat (first | (with_reducible first | exact HB.out | apply below_alloc | apply pw_below_drewN | apply below_drew1 | refine below_set ?_ GE339.out) | exact HB.out)⟩⟩
               ·replace c27 := Bool.eq_false_iff.mpr c27
                subst c27
                have H1 : (truantref09_Reached.l1 k3 x3_3 x4_1 (wrap64 (x5_2 + 1)) a0_0 l0_1 a0_2 l0_3 l0_4 l0_5) = some r := by rw [if_neg (show ¬ (false = true) by decide)] at H; exact H
                clear H
                have H := H1
                clear H1
                have H' := Aside0.mk H
                clear H
                have p347 : 0 ≤ (x5_2 : Int) := of_decide_eq_true (by first | (with_reducible assumption) | assumption)
                have q347 : x5_2 < (x3_3.length : Int) := of_decide_eq_true (by first | (with_reducible assumption) | assumption)
                obtain ⟨ad347, e347, hx347_0⟩ := Kd.at_bool (Kd.R_reads' HO_3.out).2.2 x5_2 p347 q347
                (try rw [← Nbq26.out] at hx347_0)
                obtain rfl : (⟨go11, 0, none⟩ : Addr) = ad347 := (by injection e347)
                (first | simp only [add_plain] at hx347_0 | simp only [add_at] at hx347_0 | simp only [Addr.add, Nat.zero_add] at hx347_0 | skip)
                replace p347 := eq_true p347
                replace q347 := eq_true q347
                go_wp2
                (try simp only [← hl3_2, ← hl3_3])
                go_roundg k3
                case measure => have := HK1.out; have := HK2.out; have := HK3.out; omega
                case rel => exact ⟨(x3_3), (wrap64 (x5_2 + 1)), (by first | rfl | (simp; done) | (simp [*]; done)), H', ⟨by have := HK1.out; have := HK2.out; have := HK3.out; omega⟩, ⟨by (try simp only [hl3_1]); (try simp only [hl3_2]); (try simp only [hl3_3]); (with_reducible repeat (first | apply Kd.R_alloc | apply Kd.R_drewN | apply Kd.R_drew)); exact HO_3.out⟩, ⟨by (try simp only [hl3_1]); (try simp only [hl3_2]); (try simp only [hl3_3]); (with_reducible repeat (first | refine blk_drewN ?_ _ | refine blk_drew ?_ | refine blk_alloc ?_ _)); exact BK339.out⟩, ⟨by repeat (first | (with_reducible first | exact HB.out | apply below_alloc | apply pw_below_drewN | apply below_drew1 | refine below_set ?_ GE339.out) | exact HB.out)⟩⟩
              ·rw [if_neg c25] at H
               exact absurd H (by simp)
             ·rw [if_neg c24] at H
              exact absurd H (by simp)
          ·rw [if_neg c20] at H
           have c20b0 : decide (x5_2 < (x3_2.length : Int)) = false := decide_eq_false c20
           clear c20
           have H' := Aside0.mk H
           clear H
           go_wp2
           (try simp only [← hl3_1, ← hl3_2])
           go_roundg k2
           case measure => have := HK1.out; have := HK2.out; omega
           case rel => exact ⟨(x3_2), (wrap64 (x4_1 + 1)), (by first | rfl | (simp; done) | (simp [*]; done)), H', ⟨by have := HK1.out; have := HK2.out; omega⟩, ⟨by (try simp only [hl3_1]); (try simp only [hl3_2]); (with_reducible repeat (first | apply Kd.R_alloc | apply Kd.R_drewN | apply Kd.R_drew)); exact HO_3.out⟩, ⟨by (try simp only [hl3_1]); (try simp only [hl3_2]); (with_reducible repeat (first | refine blk_drewN ?_ _ | refine blk_drew ?_ | refine blk_alloc ?_ _)); exact BK339.out⟩, ⟨by repeat (first | (with_reducible first | exact HB.out | apply below_alloc | apply pw_below_drewN | apply below_drew1 | refine below_set ?_ GE339.out) | exact HB.out)⟩⟩
       ·rw [if_neg c19] at H
        have c19b0 : decide (x4_1 < (x3_1.length : Int)) = false := decide_eq_false c19
        clear c19
        obtain rfl := Option.some.inj H
        go_wp2
        go_ret
        exact ⟨_, by first | rfl | (simp [errW_none, errW_some] <;> rfl) | (simp [*, errW_none, errW_some] <;> rfl), by (with_reducible repeat (first | apply Kd.R_alloc | apply Kd.R_drewN | apply Kd.R_drew)); exact HO_3.out, by repeat (first | (with_reducible first | exact HB.out | apply below_alloc | apply pw_below_drewN | apply below_drew1 | refine below_set ?_ GE339.out) | exact HB.out)⟩
    ·rw [if_neg c10] at H
     exact absurd H (by simp)
  ·rw [if_neg c3] at H
   exact absurd H (by simp)
 ·rw [if_neg c2] at H
  exact absurd H (by simp)

end Go.Proofs.Ytclhjalgflebfaa.Q

/- Flow, plain law: what is reached, round by round as by the walk. -/

namespace Go.Proofs.Ytclhjalgflebfaa.Q
open Go.RowKit Go.Proofs.YtclhjalgflebfaaW.PrintWords Go.Proofs.YtclhjalgflebfaaW.PrintLast Go.Proofs.YtclhjalgflebfaaW.PrintMore
set_option linter.unusedVariables false
set_option linter.unusedSimpArgs false
theorem hasR_none (n : Nat) (x : Int) : ¬ hasR (List.replicate n false) x := by
 rintro ⟨h0, h1, h2⟩
 unfold rdOf at h2
 rw [getD_at _ _ (by rw [List.length_replicate] at h1 ⊢; omega)] at h2
 simp at h2
theorem unseen_none (n : Nat) : unseen (List.replicate n false) = n := by simp [unseen]
theorem walk_facts (l : List S40) (hl : l.length < LIMF) (hn : 0 < l.length) : ∃ s e, walkO l = some (s, e ++ [0]) ∧ Adds l (List.replicate l.length false) s [0] (e ++ [0]) ∧ ((nextOf l 0).foldlM (stepO l l.length) ((List.replicate l.length false).set 0 true, [])) = some (s, e) ∧ Adds l ((List.replicate l.length false).set 0 true) s (nextOf l 0) e := by
 obtain ⟨s', e, h1, h2, e', he, h3, h4⟩ := visit_adds l (l.length + 1) 0 (List.replicate l.length false) [] (by simp) (by omega) (by omega) (hasR_none _ _) (by rw [unseen_none]; omega) (by rw [unseen_none]; simpa using hl)
 subst he
 refine ⟨s', e', ?_, h2, ?_, ?_⟩
 ·unfold walkO
  rw [if_pos hl, if_neg (by omega)]
  simpa using h1
 ·simpa using h3
 ·simpa using h4
section
variable (a0 : ByteArray) (l1 : List ByteArray) (a2 : ByteArray) (l3 : List ByteArray) (l4 : List S58) (l : List S40) (hl : l.length ≤ 1099511627776)
include hl
end
end Go.Proofs.Ytclhjalgflebfaa.Q

/- Flow, plain law: the order, with a stack as by the walk. -/

namespace Go.Proofs.Ytclhjalgflebfaa.Q
open Go.RowKit Go.Proofs.YtclhjalgflebfaaW.PrintWords Go.Proofs.YtclhjalgflebfaaW.PrintLast Go.Proofs.YtclhjalgflebfaaW.PrintMore
set_option linter.unusedVariables false
set_option linter.unusedSimpArgs false
def firstU (s : List Bool) : List Int → Int
 | [] => -1
 | x :: xs => if rdOf false s x = true then firstU s xs else x
theorem firstU_seen {s : List Bool} : ∀ {xs ys : List Int}, (∀ x ∈ xs, hasR s x) → firstU s (xs ++ ys) = firstU s ys
 | [], ys, _ => rfl
 | x :: xs, ys, h => by
  show (if rdOf false s x = true then firstU s (xs ++ ys) else x) = _
  rw [if_pos (h x List.mem_cons_self).2.2]
  exact firstU_seen (fun y hy => h y (List.mem_cons_of_mem _ hy))
section
variable (a0 : ByteArray) (l1 : List ByteArray) (a2 : ByteArray) (l3 : List ByteArray) (l4 : List S58) (l : List S40) (hl : l.length ≤ 1099511627776)
include hl
omit hl in
/-- One round of the stack's loop. -/
theorem order_round (s : List Bool) (hs : s.length = l.length) (st : List Int) (b : Int) (out q : List Int) (hst : st.length < 17592186044415)
  (h : Ev (fun k => if firstU s (nextOf l b) ≥ 0 then (if 0 ≤ firstU s (nextOf l b) then (if firstU s (nextOf l b) < (s.length : Int) then (if (st ++ [b]).length < 17592186044416 then truantref09_Order.l0 k (s.set (firstU s (nextOf l b)).toNat true) ((st ++ [b]) ++ [firstU s (nextOf l b)]) out a0 l1 a2 l3 l4 l else none) else none) else none) else (if ([b] : List Int).length + out.length < 17592186044416 then truantref09_Order.l0 k s st ([b] ++ out) a0 l1 a2 l3 l4 l else none)) q) :
  Ev (fun k => truantref09_Order.l0 k s (st ++ [b]) out a0 l1 a2 l3 l4 l) q := by
 have hlen : (st ++ [b]).length = st.length + 1 := by simp
 have hw : wrap64 (((st ++ [b]).length : Int) - 1) = (st.length : Int) := by rw [hlen]; unfold wrap64; omega
 have hrd : rd (st ++ [b]) (st.length : Int) = b := by unfold rd; rw [Int.toNat_natCast]; simp [List.getD]
 refine Ev.step (fun k => rfl) (Ev.pos (by omega) ?_)
 rw [hw, hrd]
 refine Ev.pos (by omega) (Ev.pos (by omega) (Ev.bind (refNext a0 l1 a2 l3 l4 l b) ?_))
 have h2 := next_len l b
 have hw2 : wrap64 (((nextOf l b).length : Int) - 1) = ((nextOf l b).length : Int) - 1 := by unfold wrap64; omega
 rw [hw2]
 have key : ∀ (j : Nat) (x8 : Int), j ≤ (nextOf l b).length → x8 = firstU s ((nextOf l b).drop j) → Ev (fun k => truantref09_Order.l1 k s (st ++ [b]) out b (nextOf l b) x8 ((j : Int) - 1) a0 l1 a2 l3 l4 l) q := by
  intro j
  induction j with
  | zero =>
   intro x8 _ hx
   rw [List.drop_zero] at hx
   subst hx
   refine Ev.step (fun k => rfl) (Ev.neg (by omega) ?_)
   refine Ev.congr (fun k => ?_) h
   have ht : (st ++ [b]).take (st.length : Int).toNat = st := by rw [Int.toNat_natCast]; exact List.take_left' rfl
   simp only [Option.bind_some]
   rw [hw, ht]
   split
   ·rfl
   ·split
    ·rw [if_pos (by omega), if_pos (by rw [hlen]; omega)]
    ·rfl
  | succ j ih =>
   intro x8 hj hx
   have hlt : j < (nextOf l b).length := by omega
   have hrd2 : rd (nextOf l b) (j : Int) = (nextOf l b)[j] := by unfold rd; rw [Int.toNat_natCast, getD_at _ _ hlt]
   have hin := next_in (List.getElem_mem hlt)
   have e1 : ((j + 1 : Nat) : Int) - 1 = (j : Int) := by omega
   have e2 : wrap64 ((j : Int) - 1) = (j : Int) - 1 := by unfold wrap64; omega
   rw [e1]
   refine Ev.step (fun k => rfl) (Ev.pos (by omega) (Ev.pos (by omega) (Ev.pos (by omega) ?_)))
   rw [hrd2, e2]
   refine Ev.pos hin.1 (Ev.pos (by rw [hs]; exact hin.2) ?_)
   have hd : firstU s ((nextOf l b).drop j) = if rdOf false s (nextOf l b)[j] = true then x8 else (nextOf l b)[j] := by
    rw [List.drop_eq_getElem_cons hlt, hx]
    rfl
   by_cases hq : rdOf false s (nextOf l b)[j] = true
   ·rw [if_pos hq] at hd
    exact Ev.pos hq (ih x8 (by omega) hd.symm)
   ·rw [if_neg hq] at hd
    exact Ev.neg hq (ih _ (by omega) hd.symm)
 have := key (nextOf l b).length (-1) (Nat.le_refl _) (by rw [List.drop_length]; rfl)
 exact this
omit hl in
theorem sim : ∀ (k : Nat) (xs pre : List Int) (b : Int) (s : List Bool) (d st out : List Int), nextOf l b = pre ++ xs → (∀ x ∈ pre, hasR s x) → s.length = l.length → unseen s ≤ k → d.length + unseen s < LIMF → out.length + st.length + 1 + unseen s ≤ 1099511627777 →
  ∃ s' e, xs.foldlM (stepO l k) (s, d) = some (s', d ++ e) ∧ Adds l s s' xs e ∧ ∀ q, Ev (fun k => truantref09_Order.l0 k s' st (b :: (e.reverse ++ out)) a0 l1 a2 l3 l4 l) q → Ev (fun k => truantref09_Order.l0 k s (st ++ [b]) out a0 l1 a2 l3 l4 l) q := by
 intro k
 induction k with
 | zero =>
  intro xs
  induction xs with
  | nil =>
   intro pre b s d st out hn hpre hs hu hd hb
   refine ⟨s, [], by simp, Adds.none (fun x hx => by cases hx), fun q hq => ?_⟩
   refine order_round a0 l1 a2 l3 l4 l s hs st b out q (by omega) ?_
   have hf : firstU s (nextOf l b) = -1 := by rw [hn, firstU_seen hpre]; rfl
   rw [hf]
   refine Ev.neg (by omega) (Ev.pos (by simp only [List.length_singleton]; omega) ?_)
   simpa using hq
  | cons x xs ihx =>
   intro pre b s d st out hn hpre hs hu hd hb
   have hx0 : x ∈ nextOf l b := by rw [hn]; simp
   have hin := next_in hx0
   have hx : hasR s x := by
    apply Classical.byContradiction
    intro hno
    obtain ⟨s', e, h1, _⟩ := visit_adds l 0 x s d hs hin.1 hin.2 hno hu hd
    cases h1
   obtain ⟨s', e, h1, h2, h3⟩ := ihx (pre ++ [x]) b s d st out (by simp [hn]) (fun y hy => by
    rcases List.mem_append.mp hy with hy | hy
    ·exact hpre y hy
    ·rw [List.mem_singleton] at hy; subst hy; exact hx) hs hu hd hb
   refine ⟨s', e, ?_, ?_, h3⟩
   ·rw [List.foldlM_cons]
    unfold stepO
    rw [if_pos ⟨hx.1, hx.2.1⟩, if_pos hx.2.2]
    exact h1
   ·have := (Adds.none (l := l) (s := s) (xs := [x]) (fun y hy => by rw [List.mem_singleton] at hy; subst hy; exact hx)).trans h2
    simpa using this
 | succ k ihk =>
  intro xs
  induction xs with
  | nil =>
   intro pre b s d st out hn hpre hs hu hd hb
   refine ⟨s, [], by simp, Adds.none (fun x hx => by cases hx), fun q hq => ?_⟩
   refine order_round a0 l1 a2 l3 l4 l s hs st b out q (by omega) ?_
   have hf : firstU s (nextOf l b) = -1 := by rw [hn, firstU_seen hpre]; rfl
   rw [hf]
   refine Ev.neg (by omega) (Ev.pos (by simp only [List.length_singleton]; omega) ?_)
   simpa using hq
  | cons x xs ihx =>
   intro pre b s d st out hn hpre hs hu hd hb
   have hx0 : x ∈ nextOf l b := by rw [hn]; simp
   have hin := next_in hx0
   by_cases hx : hasR s x
   ·obtain ⟨s', e, h1, h2, h3⟩ := ihx (pre ++ [x]) b s d st out (by simp [hn]) (fun y hy => by
     rcases List.mem_append.mp hy with hy | hy
     ·exact hpre y hy
     ·rw [List.mem_singleton] at hy; subst hy; exact hx) hs hu hd hb
    refine ⟨s', e, ?_, ?_, h3⟩
    ·rw [List.foldlM_cons]
     unfold stepO
     rw [if_pos ⟨hx.1, hx.2.1⟩, if_pos hx.2.2]
     exact h1
    ·have := (Adds.none (l := l) (s := s) (xs := [x]) (fun y hy => by rw [List.mem_singleton] at hy; subst hy; exact hx)).trans h2
     simpa using this
   ·obtain ⟨s1, e1, h1, h2, e1', he1, h4, h5⟩ := visit_adds l (k + 1) x s d hs hin.1 hin.2 hx hu hd
    have hno : s.getD x.toNat false = false := by
     cases hq : s.getD x.toNat false with
     | false => rfl
     | true => exact absurd ⟨hin.1, by rw [hs]; exact hin.2, hq⟩ hx
    have hu2 := unseen_set (s := s) (m := x.toNat) (by omega) hno
    obtain ⟨s1', e1'', g1, g2, g3⟩ := ihk (nextOf l x) [] x (s.set x.toNat true) d (st ++ [b]) out rfl (fun y hy => by cases hy) (by rw [List.length_set]; exact hs) (by omega) (by omega) (by rw [List.length_append]; simp only [List.length_singleton]; omega)
    have hsame := h4.symm.trans g1
    simp only [Nat.add_sub_cancel, Option.some.injEq, Prod.mk.injEq, List.append_cancel_left_eq] at hsame
    obtain ⟨rfl, rfl⟩ := hsame
    have hc := h2.count
    obtain ⟨s2, e2, f1, f2, f3⟩ := ihx (pre ++ [x]) b s1 (d ++ e1) st (x :: (e1'.reverse ++ out)) (by simp [hn]) (fun y hy => by
     rcases List.mem_append.mp hy with hy | hy
     ·exact (h2.mem y).mpr (.inl (hpre y hy))
     ·rw [List.mem_singleton] at hy; subst hy; exact h2.starts y (by simp)) (h2.len.trans hs) (by omega) (by rw [List.length_append]; omega) (by
      subst he1
      rw [List.length_append] at hc
      simp only [List.length_singleton] at hc
      simp only [List.length_cons, List.length_append, List.length_reverse]
      omega)
    refine ⟨s2, e1 ++ e2, ?_, h2.trans f2, fun q hq => ?_⟩
    ·rw [List.foldlM_cons, ← List.append_assoc]
     unfold stepO
     rw [if_pos ⟨hin.1, by rw [hs]; exact hin.2⟩, if_neg (fun h => hx ⟨hin.1, by rw [hs]; exact hin.2, h⟩)]
     show (visitO l (k + 1) x s d).bind _ = _
     rw [h1]
     exact f1
    ·have hf : firstU s (nextOf l b) = x := by
      rw [hn, firstU_seen hpre]
      show (if rdOf false s x = true then firstU s xs else x) = x
      rw [if_neg (fun h => hx ⟨hin.1, by rw [hs]; exact hin.2, h⟩)]
     refine order_round a0 l1 a2 l3 l4 l s hs st b out q (by omega) ?_
     rw [hf]
     refine Ev.pos hin.1 (Ev.pos hin.1 (Ev.pos (by rw [hs]; exact hin.2) (Ev.pos (by rw [List.length_append]; simp only [List.length_singleton]; omega) ?_)))
     refine g3 q (f3 q ?_)
     subst he1
     simpa using hq
theorem order_same (hn : 0 < l.length) (s : List Bool) (e : List Int) (h1 : ((nextOf l 0).foldlM (stepO l l.length) ((List.replicate l.length false).set 0 true, [])) = some (s, e)) : Ev (fun k => truantref09_Order.f k a0 l1 a2 l3 l4 l) (0 :: e.reverse) := by
 have hu := unseen_set (s := List.replicate l.length false) (m := 0) (by simpa using hn) (by rw [getD_at _ _ (by simpa using hn)]; simp)
 rw [unseen_none] at hu
 obtain ⟨s', e', g1, g2, g3⟩ := sim a0 l1 a2 l3 l4 l l.length (nextOf l 0) [] 0 ((List.replicate l.length false).set 0 true) [] [] [] rfl (fun y hy => by cases hy) (by simp) (by omega) (by simp only [List.length_nil, LIMF]; omega) (by simp only [List.length_nil]; omega)
 rw [h1] at g1
 simp only [List.nil_append, Option.some.injEq, Prod.mk.injEq] at g1
 obtain ⟨rfl, rfl⟩ := g1
 unfold truantref09_Order.f
 refine Ev.neg (by omega) (Ev.pos (by omega) (Ev.pos (by omega) ?_))
 rw [Int.toNat_natCast]
 refine Ev.pos (by rw [List.length_replicate]; omega) ?_
 refine g3 _ ?_
 rw [List.append_nil]
 exact Ev.step (fun k => rfl) (Ev.now _)
end
end Go.Proofs.Ytclhjalgflebfaa.Q

/- Flow, plain law: the anchor, and what is more than is asked. -/

namespace Go.Proofs.Ytclhjalgflebfaa.Q
open Go.RowKit Go.Proofs.YtclhjalgflebfaaW.PrintWords Go.Proofs.YtclhjalgflebfaaW.PrintLast Go.Proofs.YtclhjalgflebfaaW.PrintMore
set_option linter.unusedVariables false
set_option linter.unusedSimpArgs false
theorem awake_true : Ev (fun k => truantlaw09_awake.f k) true := by
 have h : truantlaw09_awake.f 40 = some true := by kernel_rfl
 exact Ev.of (fun k => truantlaw09_awake.mono k) h
section
variable (a0 : ByteArray) (l1 : List ByteArray) (a2 : ByteArray) (l3 : List ByteArray) (l4 : List S58) (l : List S40)
theorem wide_ev : ∃ b, Ev (fun k => truantlaw09_wide.f k a0 l1 a2 l3 l4 l) b ∧ (b = false → l.length ≤ 60 ∧ l4.length ≤ 300) := by
 unfold truantlaw09_wide.f
 by_cases h1 : (l4.length : Int) > 300
 ·exact ⟨true, Ev.pos h1 (Ev.step (fun k => rfl) (Ev.now _)), fun h => by cases h⟩
 ·by_cases h2 : (l.length : Int) > 60
  ·refine ⟨true, Ev.neg h1 (Ev.step (fun k => rfl) ?_), fun h => by cases h⟩
   rw [decide_eq_true h2]
   exact Ev.now _
  ·have key : ∀ (d i : Nat) (acc : Int), l.length - i = d → i ≤ l.length → ∃ b, Ev (fun k => truantlaw09_wide.l0 k acc (i : Int) a0 l1 a2 l3 l4 l) b := by
    intro d
    induction d with
    | zero => intro i acc hd hi; exact ⟨_, Ev.step (fun k => rfl) (Ev.neg (by omega) (Ev.now _))⟩
    | succ d ih =>
     intro i acc hd hi
     obtain ⟨b, hb⟩ := ih (i + 1) (wrap64 (acc + (((rd_T40 l (i : Int)).f0).length : Int))) (by omega) (by omega)
     refine ⟨b, Ev.step (fun k => rfl) (Ev.pos (by omega) (Ev.pos (by omega) ?_))⟩
     rw [wrap_up (n := l.length) (by omega) (by omega)]
     exact hb
   obtain ⟨b, hb⟩ := key _ 0 0 rfl (Nat.zero_le _)
   refine ⟨b, Ev.neg h1 (Ev.step (fun k => rfl) ?_), fun _ => by omega⟩
   rw [decide_eq_false h2]
   exact hb
end
end Go.Proofs.Ytclhjalgflebfaa.Q

/- Flow: the block of each instruction, and who leads to somebody who doesn't stand behind. -/

namespace Go.Proofs.Ytclhjalgflebfaa.Q
open Go.RowKit Go.Proofs.YtclhjalgflebfaaW.PrintWords Go.Proofs.YtclhjalgflebfaaW.PrintLast Go.Proofs.YtclhjalgflebfaaW.PrintMore
set_option linter.unusedVariables false
set_option linter.unusedSimpArgs false
/-- The places of one block's list. -/
def putAll (b : Int) : List Int → List Int → List Int
 | [], w => w
 | p :: ps, w => putAll b ps (if 0 ≤ p ∧ p < (w.length : Int) then w.set p.toNat b else w)
def whereDn (l : List S40) : Nat → List Int → List Int
 | 0, w => w
 | b + 1, w => whereDn l b (putAll b (rd_T40 l b).f0 w)
theorem putAll_cons (b p : Int) (ps w : List Int) : putAll b (p :: ps) w = putAll b ps (if 0 ≤ p ∧ p < (w.length : Int) then w.set p.toNat b else w) := rfl
theorem putAll_len (b : Int) : ∀ (ps w : List Int), (putAll b ps w).length = w.length
 | [], w => rfl
 | p :: ps, w => by
  unfold putAll
  rw [putAll_len b ps]
  split
  ·rw [List.length_set]
  ·rfl
theorem whereDn_len (l : List S40) : ∀ (b : Nat) (w : List Int), (whereDn l b w).length = w.length
 | 0, w => rfl
 | b + 1, w => by unfold whereDn; rw [whereDn_len l b, putAll_len]
theorem wrap_less {n : Nat} (h : n ≤ 140737488351232) : wrap64 ((n : Int) - 1) = (n : Int) - 1 := by unfold wrap64; omega
section
variable (a0 : ByteArray) (l1 : List ByteArray) (a2 : ByteArray) (l3 : List ByteArray) (l4 : List S58) (l : List S40) (hl : l.length ≤ 60) (hL : ∀ b : Nat, b < l.length → (rd_T40 l b).f0.length ≤ 140737488351232)
include hl hL
theorem where_ev : ∀ (b : Nat) (w : List Int), b ≤ l.length → Ev (fun k => flow_Where.l0 k w ((b : Int) - 1) a0 l1 a2 l3 l4 l) (whereDn l b w) := by
 intro b
 induction b with
 | zero => intro w _; exact Ev.step (fun k => rfl) (Ev.now _)
 | succ b ih =>
  intro w hb
  have e1 : ((b + 1 : Nat) : Int) - 1 = (b : Int) := by omega
  rw [e1]
  refine Ev.step (fun k => rfl) (Ev.pos (by omega) ?_)
  have hLb := hL b (by omega)
  generalize hps : (rd_T40 l (b : Int)).f0 = ps at hLb
  unfold whereDn
  rw [hps]
  have key : ∀ (d j : Nat) (w1 : List Int), ps.length - j = d → j ≤ ps.length → putAll b (ps.drop j) w1 = putAll b ps w → Ev (fun k => flow_Where.l1 k w1 (b : Int) ps (ps.length : Int) (j : Int) a0 l1 a2 l3 l4 l) (whereDn l b (putAll b ps w)) := by
   intro d
   induction d with
   | zero =>
    intro j w1 hd hj hw
    rw [List.drop_of_length_le (by omega)] at hw
    refine Ev.step (fun k => rfl) (Ev.neg (by omega) ?_)
    rw [wrap_less (by omega), ← hw]
    exact ih _ (by omega)
   | succ d ihd =>
    intro j w1 hd hj hw
    have hlt : j < ps.length := by omega
    have hrd : rd ps (j : Int) = ps[j] := by unfold rd; rw [Int.toNat_natCast, getD_at _ _ hlt]
    rw [List.drop_eq_getElem_cons hlt] at hw
    refine Ev.step (fun k => rfl) (Ev.pos (by omega) (Ev.pos (by omega) (Ev.pos (by omega) ?_)))
    rw [hrd, wrap_up (n := ps.length) hlt (by omega)]
    rw [putAll_cons] at hw
    by_cases h0 : ps[j] ≥ 0
    ·refine Ev.pos h0 ?_
     by_cases h1 : ps[j] < (w1.length : Int)
     ·rw [if_pos ⟨h0, h1⟩] at hw
      exact Ev.pos h1 (Ev.pos h0 (ihd (j + 1) _ (by omega) (by omega) hw))
     ·rw [if_neg (fun h => h1 h.2)] at hw
      exact Ev.neg h1 (ihd (j + 1) _ (by omega) (by omega) hw)
    ·rw [if_neg (fun h => h0 h.1)] at hw
     exact Ev.neg h0 (ihd (j + 1) _ (by omega) (by omega) hw)
  exact key _ 0 w rfl (Nat.zero_le _) rfl
theorem want_ev (w3 : List Int) (q : Bool) : ∀ (b : Nat) (w : List Int), b ≤ l.length → Ev (fun k => truantlaw09_FlowWhere.l1 k w3 (whereDn l b w) (-1) a0 l1 a2 l3 l4 l) q → Ev (fun k => truantlaw09_FlowWhere.l1 k w3 w ((b : Int) - 1) a0 l1 a2 l3 l4 l) q := by
 intro b
 induction b with
 | zero => intro w _ h; exact h
 | succ b ih =>
  intro w hb h
  have e1 : ((b + 1 : Nat) : Int) - 1 = (b : Int) := by omega
  rw [e1]
  refine Ev.step (fun k => rfl) ?_
  have hLb := hL b (by omega)
  unfold whereDn at h
  generalize hps : (rd_T40 l (b : Int)).f0 = ps at hLb h
  have key : ∀ (d j : Nat) (w1 : List Int), ps.length - j = d → j ≤ ps.length → putAll b (ps.drop j) w1 = putAll b ps w → Ev (fun k => truantlaw09_FlowWhere.l2 k w3 w1 (b : Int) (j : Int) a0 l1 a2 l3 l4 l) q := by
   intro d
   induction d with
   | zero =>
    intro j w1 hd hj hw
    rw [List.drop_of_length_le (by omega)] at hw
    refine Ev.step (fun k => rfl) (Ev.pos (by omega) (Ev.pos (by omega) (Ev.neg (by rw [hps]; omega) ?_)))
    rw [wrap_less (by omega)]
    refine ih _ (by omega) ?_
    rw [← hw] at h
    exact h
   | succ d ihd =>
    intro j w1 hd hj hw
    have hlt : j < ps.length := by omega
    have hrd : rd ps (j : Int) = ps[j] := by unfold rd; rw [Int.toNat_natCast, getD_at _ _ hlt]
    rw [List.drop_eq_getElem_cons hlt] at hw
    refine Ev.step (fun k => rfl) (Ev.pos (by omega) (Ev.pos (by omega) (Ev.pos (by rw [hps]; omega) (Ev.pos (by omega) ?_))))
    rw [hps, hrd, wrap_up (n := ps.length) hlt (by omega)]
    rw [putAll_cons] at hw
    by_cases h0 : ps[j] ≥ 0
    ·refine Ev.pos h0 ?_
     by_cases h1 : ps[j] < (w1.length : Int)
     ·rw [if_pos ⟨h0, h1⟩] at hw
      exact Ev.pos h1 (Ev.pos h0 (ihd (j + 1) _ (by omega) (by omega) hw))
     ·rw [if_neg (fun h => h1 h.2)] at hw
      exact Ev.neg h1 (ihd (j + 1) _ (by omega) (by omega) hw)
    ·rw [if_neg (fun h => h0 h.1)] at hw
     exact Ev.neg h0 (ihd (j + 1) _ (by omega) (by omega) hw)
  exact key _ 0 w rfl (Nat.zero_le _) rfl
end
theorem set_fill (n : Nat) (x : Int) : ∀ (i : Nat) (w : List Int), w.length = n → i < n → (∀ j : Nat, j < i → w.getD j 0 = x) → ∀ j : Nat, j < i + 1 → (w.set i x).getD j 0 = x := by
 intro i w hw hi h j hj
 by_cases he : i = j
 ·subst he
  simp only [List.getD]
  rw [List.getElem?_set_self (by omega)]
  rfl
 ·simp only [List.getD]
  rw [List.getElem?_set_ne he]
  exact h j (by omega)
theorem fill_eq {n : Nat} {x : Int} {w : List Int} (hw : w.length = n) (h : ∀ j : Nat, j < n → w.getD j 0 = x) : w = List.replicate n x :=
 lists_eq 0 (by simp [hw]) (fun j hj => by rw [h j (by omega), getD_at _ _ (by simp; omega)]; simp)
theorem srt_split : ∀ {R : List Int} (_ : R.Pairwise (fun a b => a < b)) (k : Int), R = R.filter (fun y => decide (y < k)) ++ R.filter (fun y => decide (k ≤ y)) ∧ R.filter (fun y => decide (y < k + 1)) = R.filter (fun y => decide (y < k)) ++ (if k ∈ R then [k] else [])
 | [], _, k => by simp
 | a :: R, h, k => by
  rw [List.pairwise_cons] at h
  obtain ⟨h1, h2⟩ := h
  obtain ⟨i1, i2⟩ := srt_split h2 k
  by_cases ha : a < k
  ·have e1 : decide (a < k) = true := decide_eq_true ha
   have e2 : decide (k ≤ a) = false := decide_eq_false (by omega)
   have e3 : decide (a < k + 1) = true := decide_eq_true (by omega)
   have e4 : (k = a ∨ k ∈ R) ↔ k ∈ R := ⟨fun h => h.resolve_left (by omega), .inr⟩
   simp only [List.filter_cons, e1, e2, e3, if_true, List.cons_append, List.cons.injEq, true_and, List.mem_cons, e4]
   exact ⟨i1, i2⟩
  ·have e1 : decide (a < k) = false := decide_eq_false ha
   have e2 : decide (k ≤ a) = true := decide_eq_true (by omega)
   have e5 : R.filter (fun y => decide (y < k)) = [] := List.filter_eq_nil_iff.mpr (fun y hy => by have := h1 y hy; simp; omega)
   have e6 : R.filter (fun y => decide (k ≤ y)) = R := List.filter_eq_self.mpr (fun y hy => by have := h1 y hy; exact decide_eq_true (by omega))
   by_cases hk : a = k
   ·subst hk
    have e3 : decide (a < a + 1) = true := decide_eq_true (by omega)
    have e7 : R.filter (fun y => decide (y < a + 1)) = [] := List.filter_eq_nil_iff.mpr (fun y hy => by have := h1 y hy; simp; omega)
    simp [List.filter_cons, e3, e5, e6, e7]
   ·have e3 : decide (a < k + 1) = false := decide_eq_false (by omega)
    have e7 : R.filter (fun y => decide (y < k + 1)) = [] := List.filter_eq_nil_iff.mpr (fun y hy => by have := h1 y hy; simp; omega)
    have e8 : k ∉ a :: R := by
     intro hm
     rcases List.mem_cons.mp hm with h | h
     ·exact hk h.symm
     ·have := h1 k h; omega
    rw [if_neg e8]
    simp [List.filter_cons, e1, e2, e3, e5, e6, e7]
theorem srt_at {R : List Int} (h : R.Pairwise (fun a b => a < b)) {k : Int} (hk : k ∈ R) : R[(R.filter (fun y => decide (y < k))).length]? = some k := by
 have h1 := (srt_split h (k + 1)).1
 have h2 := (srt_split h k).2
 rw [if_pos hk] at h2
 rw [h2] at h1
 obtain ⟨F, hF⟩ : ∃ F, F = R.filter (fun y => decide (y < k)) := ⟨_, rfl⟩
 rw [← hF] at h1 ⊢
 rw [h1, List.append_assoc, List.getElem?_append_right (Nat.le_refl _)]
 simp
theorem cnt_in {R : List Int} (h : R.Pairwise (fun a b => a < b)) {k : Int} (hk : k ∈ R) : (R.filter (fun y => decide (y < k + 1))).length = (R.filter (fun y => decide (y < k))).length + 1 := by
 rw [(srt_split h k).2, if_pos hk, List.length_append]
 rfl
theorem cnt_out {R : List Int} (h : R.Pairwise (fun a b => a < b)) {k : Int} (hk : k ∉ R) : (R.filter (fun y => decide (y < k + 1))).length = (R.filter (fun y => decide (y < k))).length := by
 rw [(srt_split h k).2, if_neg hk, List.append_nil]
theorem sort_srt {l : List S40} {i : Int} : (sortI (nextOf l i)).Pairwise (fun a b => a < b) := by
 have hn := nodup_next l i
 have h2 := next_len l i
 match hq : nextOf l i, hn, h2 with
 | [], _, _ => simp [sortI]
 | [a], _, _ => simp [sortI]
 | [a, b], hn, _ =>
  have : a ≠ b := by simpa using hn
  show (if a ≤ b then [a, b] else [b, a]).Pairwise _
  split
  ·simp; omega
  ·simp; omega
theorem atN_mem {o : List Int} : ∀ {n : Nat} {x : Int}, (∃ j : Nat, j < n ∧ o.getD j 0 = x) → ∃ p : Nat, atN o n x = some (p : Int) ∧ p < n
 | 0, x, ⟨j, hj, _⟩ => by omega
 | n + 1, x, ⟨j, hj, he⟩ => by
  unfold atN
  by_cases hq : x = o.getD n 0
  ·rw [if_pos hq]
   exact ⟨n, rfl, by omega⟩
  ·rw [if_neg hq]
   have : j ≠ n := fun h => hq (by rw [← h, he])
   obtain ⟨p, h1, h2⟩ := atN_mem (o := o) (n := n) (x := x) ⟨j, by omega, he⟩
   exact ⟨p, h1, by omega⟩
theorem atN_some {o : List Int} : ∀ {n : Nat} {x p : Int}, atN o n x = some p → 0 ≤ p ∧ p < n ∧ o.getD p.toNat 0 = x
 | 0, x, p, h => by cases h
 | n + 1, x, p, h => by
  unfold atN at h
  split at h
  ·rename_i hq
   injection h with h
   subst h
   exact ⟨by omega, by omega, by rw [Int.toNat_natCast]; exact hq.symm⟩
  ·obtain ⟨h1, h2, h3⟩ := atN_some h
   exact ⟨h1, by omega, h3⟩
theorem backTo_mono (l : List S40) (o : List Int) : ∀ (d i : Nat), ∃ r, backTo l o (i + d) = backTo l o i ++ r
 | 0, i => ⟨[], by simp⟩
 | d + 1, i => by
  obtain ⟨r, hr⟩ := backTo_mono l o d i
  refine ⟨r ++ backAt l o (i + d), ?_⟩
  show backTo l o (i + d) ++ backAt l o (i + d) = _
  rw [hr, List.append_assoc]
section
variable (a0 : ByteArray) (l1 : List ByteArray) (a2 : ByteArray) (l3 : List ByteArray) (l4 : List S58) (l : List S40) (hl : l.length ≤ 60) (w : List Int) (hw : w.length ≤ 300) (o : List Int) (ho : o.length ≤ 60)
 (hin : ∀ x ∈ o, 0 ≤ x ∧ x < (l.length : Int)) (hcl : ∀ x ∈ o, ∀ y ∈ nextOf l x, y ∈ o) (A : List Int) (hA : A.length = l.length) (hA2 : ∀ b : Nat, b < l.length → A.getD b 0 = (atN o o.length b).getD (-1))
include hl hw ho hin hcl hA hA2
omit hl hw ho hin hcl hA hA2 in
theorem l7_far (BT : List S38) (N : List Int) (m i k : Int) (q : Bool) (h0 : 0 ≤ k) (h1 : k < (A.length : Int)) (h2 : 0 ≤ i) (h3 : i < (A.length : Int)) (hgt : rd A k > rd A i)
  (h : Ev (fun kk => truantlaw09_FlowWhere.l6 kk w w A BT m i (wrap64 (k + 1)) a0 l1 a2 l3 l4 l) q) :
  Ev (fun kk => truantlaw09_FlowWhere.l7 kk w w A BT m i k true N (N.length : Int) a0 l1 a2 l3 l4 l) q :=
 Ev.step (fun k => rfl) (Ev.neg (Int.lt_irrefl _) (Ev.pos rfl (Ev.pos h0 (Ev.pos h1 (Ev.pos h2 (Ev.pos h3 (Ev.pos hgt h)))))))
omit hl hw ho hin hcl hA hA2 in
theorem l7_near (BT : List S38) (N : List Int) (m i k : Int) (q : Bool) (h0 : 0 ≤ k) (h1 : k < (A.length : Int)) (h2 : 0 ≤ i) (h3 : i < (A.length : Int)) (hgt : ¬ rd A k > rd A i)
  (h4 : 0 ≤ m) (h5 : m < (BT.length : Int)) (h6 : (rd_T38 BT m).f0 = i) (h7 : (rd_T38 BT m).f1 = k)
  (h : Ev (fun kk => truantlaw09_FlowWhere.l6 kk w w A BT (wrap64 (m + 1)) i (wrap64 (k + 1)) a0 l1 a2 l3 l4 l) q) :
  Ev (fun kk => truantlaw09_FlowWhere.l7 kk w w A BT m i k true N (N.length : Int) a0 l1 a2 l3 l4 l) q :=
 Ev.step (fun k => rfl) (Ev.neg (Int.lt_irrefl _) (Ev.pos rfl (Ev.pos h0 (Ev.pos h1 (Ev.pos h2 (Ev.pos h3 (Ev.neg hgt (Ev.neg (Int.not_le.mpr h5) (Ev.pos h4 (Ev.pos h5 (Ev.pos h6 (Ev.pos h7 h))))))))))))
omit hl hw ho hin hcl hA hA2 in
theorem l7_off (BT : List S38) (N : List Int) (m i k : Int) (q : Bool)
  (h : Ev (fun kk => truantlaw09_FlowWhere.l6 kk w w A BT m i (wrap64 (k + 1)) a0 l1 a2 l3 l4 l) q) :
  Ev (fun kk => truantlaw09_FlowWhere.l7 kk w w A BT m i k false N (N.length : Int) a0 l1 a2 l3 l4 l) q :=
 Ev.step (fun k => rfl) (Ev.neg (Int.lt_irrefl _) (Ev.neg Bool.false_ne_true h))
omit hl hw ho hin hcl hA hA2 in
theorem l7_scan (BT : List S38) (N : List Int) (hN : N.length ≤ 140737488351232) (m i k : Int) (q b : Bool)
  (h : Ev (fun kk => truantlaw09_FlowWhere.l7 kk w w A BT m i k b N (N.length : Int) a0 l1 a2 l3 l4 l) q) :
  ∀ (d2 j : Nat) (acc : Bool), N.length - j = d2 → j ≤ N.length → (acc || (N.drop j).any (fun y => y == k)) = b → Ev (fun kk => truantlaw09_FlowWhere.l7 kk w w A BT m i k acc N (j : Int) a0 l1 a2 l3 l4 l) q := by
 intro d2
 induction d2 with
 | zero =>
  intro j acc hd2 hj ha
  rw [List.drop_of_length_le (by omega)] at ha
  simp only [List.any_nil, Bool.or_false] at ha
  have : j = N.length := by omega
  rw [ha, this]
  exact h
 | succ d2 ihd =>
  intro j acc hd2 hj ha
  have hlt : j < N.length := by omega
  have hrd : rd N (j : Int) = N[j] := by unfold rd; rw [Int.toNat_natCast, getD_at _ _ hlt]
  rw [List.drop_eq_getElem_cons hlt, List.any_cons] at ha
  refine Ev.step (fun k => rfl) (Ev.pos (by omega) ?_)
  rw [wrap_up (n := N.length) hlt (by omega)]
  cases acc with
  | true => exact Ev.pos rfl (ihd (j + 1) true (by omega) (by omega) (by simpa using ha))
  | false =>
   refine Ev.neg (by simp) (Ev.pos (by omega) ?_)
   rw [hrd]
   exact ihd (j + 1) _ (by omega) (by omega) (by simpa using ha)
omit hl hw ho hin hcl hA hA2 in
theorem l6_end (BT : List S38) (m i k : Int) (q : Bool) (h0 : 0 ≤ i) (h1 : i < (A.length : Int)) (h2 : rd A i ≥ 0) (h3 : ¬ k < (l.length : Int))
  (h : Ev (fun kk => truantlaw09_FlowWhere.l5 kk w w A BT m (wrap64 (i + 1)) a0 l1 a2 l3 l4 l) q) :
  Ev (fun kk => truantlaw09_FlowWhere.l6 kk w w A BT m i k a0 l1 a2 l3 l4 l) q :=
 Ev.step (fun k => rfl) (Ev.pos h0 (Ev.pos h1 (Ev.pos h2 (Ev.neg h3 h))))
omit hl hw ho hin hcl hA hA2 in
theorem l6_go (BT : List S38) (m i k : Int) (N : List Int) (q : Bool) (h0 : 0 ≤ i) (h1 : i < (A.length : Int)) (h2 : rd A i ≥ 0) (h3 : k < (l.length : Int))
  (hN : Ev (fun kk => truantref09_Next.f kk a0 l1 a2 l3 l4 l i) N)
  (h : Ev (fun kk => truantlaw09_FlowWhere.l7 kk w w A BT m i k false N 0 a0 l1 a2 l3 l4 l) q) :
  Ev (fun kk => truantlaw09_FlowWhere.l6 kk w w A BT m i k a0 l1 a2 l3 l4 l) q :=
 Ev.step (fun k => rfl) (Ev.pos h0 (Ev.pos h1 (Ev.pos h2 (Ev.pos h3 (Ev.bind hN h)))))
omit hl hw ho hin hcl hA hA2 in
theorem rdp {o A : List Int} {n i p : Nat} (hi : i < n) (h : ∀ b : Nat, b < n → A.getD b 0 = (atN o o.length b).getD (-1)) (hp : atN o o.length i = some (p : Int)) : rd A (i : Int) = (p : Int) := by
 unfold rd
 rw [Int.toNat_natCast, h i hi, hp]
 rfl
omit hw ho hin in
theorem where_l6 (i : Nat) (hi : i < l.length) (p : Nat) (hp : atN o o.length i = some (p : Int)) (q : Bool) (h : Ev (fun k => truantlaw09_FlowWhere.l5 k w w A (backTo l o l.length) ((backTo l o (i + 1)).length : Int) ((i + 1 : Nat) : Int) a0 l1 a2 l3 l4 l) q) :
  Ev (fun k => truantlaw09_FlowWhere.l6 k w w A (backTo l o l.length) ((backTo l o i).length : Int) (i : Int) 0 a0 l1 a2 l3 l4 l) q := by
 obtain ⟨R, hR⟩ : ∃ R, R = (sortI (nextOf l i)).filter (fun k => decide ((atN o o.length k).getD 0 ≤ (p : Int))) := ⟨_, rfl⟩
 have hRs : R.Pairwise (fun a b => a < b) := by rw [hR]; exact List.Pairwise.filter _ sort_srt
 have hRin : ∀ y ∈ R, y ∈ nextOf l i := fun y hy => by rw [hR] at hy; exact sort_mem (List.mem_filter.mp hy).1
 have hB1 : backTo l o (i + 1) = backTo l o i ++ R.map (fun k => (⟨(i : Int), k⟩ : S38)) := by
  conv => lhs; unfold backTo backAt; rw [hp]
  rw [hR]
  rfl
 obtain ⟨rest, hrest⟩ := backTo_mono l o (l.length - (i + 1)) (i + 1)
 rw [show i + 1 + (l.length - (i + 1)) = l.length by omega] at hrest
 obtain ⟨B0, hB0⟩ : ∃ B, B = backTo l o i := ⟨_, rfl⟩
 obtain ⟨B1, hBB⟩ : ∃ B, B = backTo l o (i + 1) := ⟨_, rfl⟩
 obtain ⟨BT, hBT⟩ : ∃ B, B = backTo l o l.length := ⟨_, rfl⟩
 have hbl : BT.length ≤ 2 * l.length := by rw [hBT]; exact back_len l o l.length
 rw [← hBB, ← hB0] at hB1
 rw [← hBB, ← hBT] at hrest h
 rw [← hB0, ← hBT]
 clear hB0 hBB hBT
 have hio : (i : Int) ∈ o := by
  obtain ⟨h1, h2, h3⟩ := atN_some hp
  rw [← h3, Int.toNat_natCast, getD_at _ _ (by omega)]
  exact List.getElem_mem _
 have key : ∀ (d k m : Nat), l.length - k = d → k ≤ l.length → m = B0.length + (R.filter (fun y => decide (y < (k : Int)))).length → Ev (fun kk => truantlaw09_FlowWhere.l6 kk w w A BT (m : Int) (i : Int) (k : Int) a0 l1 a2 l3 l4 l) q := by
  intro d
  induction d with
  | zero =>
   intro k m hd hk hm
   refine l6_end a0 l1 a2 l3 l4 l w A _ _ _ _ q (by omega) (by omega) (by rw [rdp hi hA2 hp]; exact Int.natCast_nonneg p) (by omega) ?_
   rw [wrap_up (n := l.length) hi (by omega)]
   have e : R.filter (fun y => decide (y < (k : Int))) = R := List.filter_eq_self.mpr (fun y hy => by have := next_in (hRin y hy); exact decide_eq_true (by omega))
   rw [e] at hm
   have : m = B1.length := by rw [hB1, List.length_append, List.length_map]; exact hm
   rw [this]
   exact h
  | succ d ih =>
   intro k m hd hk hm
   have hkl : k < l.length := by omega
   have e1 : l.length - (k + 1) = d := by omega
   have c1 : (0 : Int) ≤ (k : Int) := Int.natCast_nonneg k
   have c2 : (k : Int) < (A.length : Int) := by omega
   have c3 : (0 : Int) ≤ (i : Int) := Int.natCast_nonneg i
   have c4 : (i : Int) < (A.length : Int) := by omega
   have c5 : (k : Int) < (l.length : Int) := by omega
   have c6 : (0 : Int) ≤ (m : Int) := Int.natCast_nonneg m
   have hmle : m ≤ B1.length := by
    have := List.length_filter_le (fun y => decide (y < (k : Int))) R
    rw [hB1, List.length_append, List.length_map, hm]
    omega
   have hle1 : B1.length ≤ BT.length := by rw [hrest, List.length_append]; omega
   have hmk : m ≤ 1000 := by omega
   have hc1 : (k : Int) ∈ R → m + 1 = B0.length + (R.filter (fun y => decide (y < ((k + 1 : Nat) : Int)))).length := fun hkR => by
    rw [Int.natCast_add, Int.natCast_one, cnt_in hRs hkR, hm]
    rfl
   have hc0 : (k : Int) ∉ R → m = B0.length + (R.filter (fun y => decide (y < ((k + 1 : Nat) : Int)))).length := fun hkR => by
    rw [Int.natCast_add, Int.natCast_one, cnt_out hRs hkR, hm]
   have hnext1 := fun hkR => ih (k + 1) (m + 1) e1 hkl (hc1 hkR)
   have hnext0 := fun hkR => ih (k + 1) m e1 hkl (hc0 hkR)
   have hN := next_len l i
   have hN2 : (nextOf l i).length ≤ 140737488351232 := by omega
   have hb : (false || ((nextOf l i).drop 0).any (fun y => y == (k : Int))) = decide ((k : Int) ∈ nextOf l i) := by
    rw [List.drop_zero, Bool.false_or]
    by_cases hm2 : (k : Int) ∈ nextOf l i
    ·rw [decide_eq_true hm2, List.any_eq_true]
     exact ⟨_, hm2, by simp⟩
    ·rw [decide_eq_false hm2, List.any_eq_false]
     intro y hy he
     have : y = (k : Int) := by simpa using he
     exact hm2 (this ▸ hy)
   refine l6_go a0 l1 a2 l3 l4 l w A _ _ _ _ _ q c3 c4 (by rw [rdp hi hA2 hp]; exact Int.natCast_nonneg p) c5 (refNext a0 l1 a2 l3 l4 l i) ?_
   refine l7_scan a0 l1 a2 l3 l4 l w A _ _ hN2 _ _ _ q _ ?_ _ 0 false rfl (Nat.zero_le _) hb
   by_cases hm2 : (k : Int) ∈ nextOf l i
   ·rw [decide_eq_true hm2]
    have hko : (k : Int) ∈ o := hcl i hio k hm2
    obtain ⟨jj, hjj, hje⟩ := List.mem_iff_getElem.mp hko
    obtain ⟨pk, hpk, hpk2⟩ := atN_mem (o := o) (n := o.length) (x := (k : Int)) ⟨jj, hjj, by rw [getD_at _ _ hjj]; exact hje⟩
    by_cases hgt : (pk : Int) > (p : Int)
    ·refine l7_far a0 l1 a2 l3 l4 l w A _ _ _ _ _ q c1 c2 c3 c4 (by rw [rdp hi hA2 hp, rdp hkl hA2 hpk]; exact hgt) ?_
     rw [wrap_up (n := 60) (i := k) (by omega) (by omega)]
     refine hnext0 ?_
     intro hkR
     rw [hR] at hkR
     have := (List.mem_filter.mp hkR).2
     rw [hpk] at this
     simp at this
     omega
    ·have hkR : (k : Int) ∈ R := by
      rw [hR]
      refine List.mem_filter.mpr ⟨sort_mem_iff.mpr hm2, ?_⟩
      rw [hpk]
      simp
      omega
     have hat := srt_at hRs hkR
     have hlt2 : (R.filter (fun y => decide (y < (k : Int)))).length < R.length := by
      rcases Nat.lt_or_ge (R.filter (fun y => decide (y < (k : Int)))).length R.length with h | h
      ·exact h
      ·rw [List.getElem?_eq_none h] at hat; cases hat
     have hml : m < BT.length := by
      have : B1.length = B0.length + R.length := by rw [hB1, List.length_append, List.length_map]
      omega
     have hel : rd_T38 BT (m : Int) = ⟨(i : Int), (k : Int)⟩ := by
      unfold rd_T38
      rw [Int.toNat_natCast]
      simp only [List.getD]
      rw [hrest, hB1, List.append_assoc, List.getElem?_append_right (by omega), List.getElem?_append_left (by rw [List.length_map]; omega), List.getElem?_map, hm, Nat.add_sub_cancel_left, hat]
      rfl
     refine l7_near a0 l1 a2 l3 l4 l w A _ _ _ _ _ q c1 c2 c3 c4 (by rw [rdp hi hA2 hp, rdp hkl hA2 hpk]; exact hgt) c6 (Int.ofNat_lt.mpr hml) (by rw [hel]) (by rw [hel]) ?_
     rw [wrap_up (n := 60) (i := k) (by omega) (by omega), wrap_up (n := 2000) (i := m) (by omega) (by omega)]
     exact hnext1 hkR
   ·rw [decide_eq_false hm2]
    refine l7_off a0 l1 a2 l3 l4 l w A _ _ _ _ _ q ?_
    rw [wrap_up (n := 60) (i := k) (by omega) (by omega)]
    exact hnext0 (fun hkR => hm2 (hRin _ hkR))
 refine key _ 0 _ rfl (Nat.zero_le _) ?_
 have : R.filter (fun y => decide (y < ((0 : Nat) : Int))) = [] := List.filter_eq_nil_iff.mpr (fun y hy => by have := next_in (hRin y hy); simp; omega)
 rw [this]
 rfl
omit ho hin in
theorem where_l5 : ∀ (d i : Nat), l.length - i = d → i ≤ l.length → Ev (fun k => truantlaw09_FlowWhere.l5 k w w A (backTo l o l.length) ((backTo l o i).length : Int) (i : Int) a0 l1 a2 l3 l4 l) true := by
 intro d
 induction d with
 | zero =>
  intro i hd hi
  have e : i = l.length := by omega
  subst e
  refine Ev.step (fun k => rfl) (Ev.neg (by omega) (Ev.bind (same_ev w (by omega)) (Ev.pos rfl ?_)))
  simp only [beq_self_eq_true]
  exact Ev.now _
 | succ d ih =>
  intro i hd hi
  have hrest := ih (i + 1) (by omega) (by omega)
  refine Ev.step (fun k => rfl) (Ev.pos (by omega) ?_)
  have hAi : rd A (i : Int) = (atN o o.length i).getD (-1) := by unfold rd; rw [Int.toNat_natCast, hA2 i (by omega)]
  cases hp : atN o o.length i with
  | none =>
   rw [hp] at hAi
   refine Ev.step (fun k => rfl) (Ev.pos (by omega) (Ev.neg (by rw [hAi]; simp) ?_))
   rw [wrap_up (n := l.length) (by omega) (by omega)]
   have : backTo l o (i + 1) = backTo l o i := by
    conv => lhs; unfold backTo backAt; rw [hp]
    simp
   rw [this] at hrest
   exact hrest
  | some p =>
   obtain ⟨h1, h2, h3⟩ := atN_some hp
   obtain ⟨pn, rfl⟩ := Int.eq_ofNat_of_zero_le h1
   exact where_l6 a0 l1 a2 l3 l4 l hl w o hcl A hA hA2 i (by omega) pn hp true hrest
end
theorem FlowWhere_pure : FlowWhere.Pure := by
 intro a0 l1 a2 l3 l4 l hwf
 have hev : Ev (fun k => truantlaw09_FlowWhere.f k a0 l1 a2 l3 l4 l) true := by
  unfold truantlaw09_FlowWhere.f
  refine Ev.bind awake_true (Ev.pos rfl ?_)
  obtain ⟨b, hb, hb2⟩ := wide_ev a0 l1 a2 l3 l4 l
  refine Ev.bind hb ?_
  cases b with
  | true => exact Ev.pos rfl (Ev.now _)
  | false =>
   obtain ⟨hl60, hl4⟩ := hb2 rfl
   refine Ev.neg (by simp) ?_
   have hL : ∀ b : Nat, b < l.length → (rd_T40 l b).f0.length ≤ 140737488351232 := by
    intro b hb
    have h5 := hwf.2.2.2.2.2.2 _ (List.getElem_mem hb)
    have : rd_T40 l (b : Int) = l[b] := by unfold rd_T40; rw [Int.toNat_natCast, getD_at _ _ hb]
    rw [this]
    have := h5.1.1
    omega
   have hW : Ev (fun k => flow_Where.f k a0 l1 a2 l3 l4 l) (whereDn l l.length (List.replicate l4.length (-1))) := by
    unfold flow_Where.f
    refine Ev.one (b := List.replicate l4.length (-1)) ?_ ?_
    ·unfold slices_Repeat_int_int.f
     rw [if_pos ⟨rfl, by omega, by unfold LIMF; omega⟩, Int.toNat_natCast]
     rfl
    ·rw [wrap_less (by omega)]
     exact where_ev a0 l1 a2 l3 l4 l hl60 hL l.length _ (Nat.le_refl _)
   refine Ev.bind hW (Ev.pos (by rw [whereDn_len, List.length_replicate]) (Ev.pos (by omega) (Ev.pos (by omega) ?_)))
   rw [Int.toNat_natCast]
   have hwlen : (whereDn l l.length (List.replicate l4.length (-1))).length ≤ 300 := by rw [whereDn_len, List.length_replicate]; omega
   obtain ⟨o, hO, hO2, ho, hin, hcl⟩ : ∃ o, flow_Order.f a0 l1 a2 l3 l4 l = some o ∧ Ev (fun k => truantref09_Order.f k a0 l1 a2 l3 l4 l) o ∧ o.length ≤ 60 ∧ (∀ x ∈ o, 0 ≤ x ∧ x < (l.length : Int)) ∧ (∀ x ∈ o, ∀ y ∈ nextOf l x, y ∈ o) := by
    by_cases hn : 0 < l.length
    ·obtain ⟨s, e, h1, h2, h3, h4⟩ := walk_facts l (by unfold LIMF; omega) hn
     have hc := h2.count
     rw [unseen_none, List.length_append] at hc
     simp only [List.length_singleton] at hc
     have hm : ∀ x, x ∈ (0 : Int) :: e.reverse ↔ x ∈ e ++ [0] := fun x => by simp [or_comm]
     have hm2 : ∀ x, hasR s x ↔ x ∈ e ++ [0] := fun x => by rw [h2.mem]; exact ⟨fun h => h.resolve_left (hasR_none _ _), .inr⟩
     refine ⟨0 :: e.reverse, ?_, order_same a0 l1 a2 l3 l4 l (by omega) hn s e h3, by simp only [List.length_cons, List.length_reverse]; omega, fun x hx => ?_, fun x hx y hy => ?_⟩
     ·unfold flow_Order.f
      rw [h1]
      simp only [Option.bind_some]
      rw [if_pos (by rw [List.length_append]; simp only [List.length_singleton]; unfold LIMF; omega)]
      simp
     ·have := (hm2 x).mpr ((hm x).mp hx)
      have hs := h2.len
      rw [List.length_replicate] at hs
      exact ⟨this.1, by have := this.2.1; omega⟩
     ·exact (hm y).mpr ((hm2 y).mp (h2.goes x ((hm x).mp hx) y hy))
    ·obtain rfl : l = [] := List.eq_nil_of_length_eq_zero (by omega)
     exact ⟨[], rfl, ⟨0, fun k _ => rfl⟩, by simp, fun x hx => (by cases hx), fun x hx => (by cases hx)⟩
   have hB : flow_Back.f a0 l1 a2 l3 l4 l = some (backTo l o l.length) := by
    unfold flow_Back.f
    rw [hO]
    simp only [Option.bind_some]
    rw [if_pos]
    unfold backOk LIMB
    simp only [Bool.and_eq_true, decide_eq_true_eq, List.all_eq_true]
    exact ⟨⟨by omega, by omega⟩, hin⟩
   generalize hwd : whereDn l l.length (List.replicate l4.length (-1)) = w at hwlen
   have step4 : ∀ (d i : Nat) (A : List Int), o.length - i = d → i ≤ o.length → A.length = l.length → (∀ b : Nat, b < l.length → A.getD b 0 = (atN o i b).getD (-1)) → Ev (fun k => truantlaw09_FlowWhere.l4 k w w o A (i : Int) a0 l1 a2 l3 l4 l) true := by
    intro d
    induction d with
    | zero =>
     intro i A hd hi hA hA2
     have e : i = o.length := by omega
     subst e
     refine Ev.step (fun k => rfl) (Ev.neg (by omega) (Ev.one hB ?_))
     exact where_l5 a0 l1 a2 l3 l4 l hl60 w hwlen o hcl A hA hA2 l.length 0 (by omega) (Nat.zero_le _)
    | succ d ih =>
     intro i A hd hi hA hA2
     have hlt : i < o.length := by omega
     have hrd : rd o (i : Int) = o[i] := by unfold rd; rw [Int.toNat_natCast, getD_at _ _ hlt]
     have hoi := hin _ (List.getElem_mem hlt)
     refine Ev.step (fun k => rfl) (Ev.pos (by omega) (Ev.pos (by omega) ?_))
     rw [hrd, wrap_up (n := o.length) hlt (by omega)]
     refine Ev.pos hoi.1 (Ev.pos (by omega) (ih (i + 1) _ (by omega) (by omega) (by rw [List.length_set]; exact hA) (fun b hb => ?_)))
     unfold atN
     rw [getD_at _ _ hlt]
     by_cases he : (b : Int) = o[i]
     ·rw [if_pos he, ← he, Int.toNat_natCast]
      simp only [List.getD]
      rw [List.getElem?_set_self (by omega)]
      rfl
     ·rw [if_neg he, ← hA2 b hb]
      simp only [List.getD]
      rw [List.getElem?_set_ne (by omega)]
   have step3 : ∀ (d i : Nat) (A : List Int), l.length - i = d → i ≤ l.length → A.length = l.length → (∀ j : Nat, j < i → A.getD j 0 = -1) → Ev (fun k => truantlaw09_FlowWhere.l3 k w w o A (i : Int) a0 l1 a2 l3 l4 l) true := by
    intro d
    induction d with
    | zero =>
     intro i A hd hi hA hA2
     refine Ev.step (fun k => rfl) (Ev.neg (by omega) ?_)
     exact step4 _ 0 A rfl (Nat.zero_le _) hA (fun b hb => by rw [hA2 b (by omega)]; rfl)
    | succ d ih =>
     intro i A hd hi hA hA2
     refine Ev.step (fun k => rfl) (Ev.pos (by omega) (Ev.pos (by omega) ?_))
     rw [wrap_up (n := l.length) (by omega) (by omega), Int.toNat_natCast]
     exact ih (i + 1) _ (by omega) (by omega) (by rw [List.length_set]; exact hA) (set_fill l.length (-1) i A hA (by omega) hA2)
   have step1 : Ev (fun k => truantlaw09_FlowWhere.l1 k w w (-1) a0 l1 a2 l3 l4 l) true := by
    refine Ev.step (fun k => rfl) (Ev.bind hO2 (Ev.pos (by omega) (Ev.pos (by omega) ?_)))
    rw [Int.toNat_natCast]
    exact step3 _ 0 _ rfl (Nat.zero_le _) (by simp) (fun j hj => by omega)
   have step0 : ∀ (d i : Nat) (A : List Int), l4.length - i = d → i ≤ l4.length → A.length = l4.length → (∀ j : Nat, j < i → A.getD j 0 = -1) → Ev (fun k => truantlaw09_FlowWhere.l0 k w A (i : Int) a0 l1 a2 l3 l4 l) true := by
    intro d
    induction d with
    | zero =>
     intro i A hd hi hA hA2
     have e := fill_eq (n := l4.length) (x := -1) hA (fun j hj => hA2 j (by omega))
     subst e
     refine Ev.step (fun k => rfl) (Ev.neg (by omega) ?_)
     rw [wrap_less (by omega)]
     refine want_ev a0 l1 a2 l3 l4 l hl60 hL w true l.length _ (Nat.le_refl _) ?_
     rw [hwd]
     exact step1
    | succ d ih =>
     intro i A hd hi hA hA2
     refine Ev.step (fun k => rfl) (Ev.pos (by omega) (Ev.pos (by omega) ?_))
     rw [wrap_up (n := l4.length) (by omega) (by omega), Int.toNat_natCast]
     exact ih (i + 1) _ (by omega) (by omega) (by rw [List.length_set]; exact hA) (set_fill l4.length (-1) i A hA (by omega) hA2)
   exact step0 _ 0 _ rfl (Nat.zero_le _) (by simp) (fun j hj => by omega)
 exact hev.rounds
end Go.Proofs.Ytclhjalgflebfaa.Q

