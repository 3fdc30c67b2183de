/- What the row of NumParts rests on, part 1: contracts of the functions that it reaches, and the plain law. -/
import Derived.Test.YtcmppjonpmgncaaDoorJNumParts0
/- How an argument of a type reads: out of the form's reading comes the value that the printed walks take. -/
namespace Go.Proofs.YtcmppjonpmgncaaDoor.Q
open Go.RowKit Go.Proofs.YtcmppjonpmgncaaDoorW.PrintWords Go.Proofs.YtcmppjonpmgncaaDoorW.PrintLast Go.Proofs.YtcmppjonpmgncaaDoorW.PrintMore
set_option linter.unusedVariables false
set_option linter.unusedSimpArgs false
/-- What reads at type t reads as a value of kind K, of which Q holds. -/
structure Opens {α : Type} (P : Program) (t : TypeId) (K : Kd α) (Q : α → Prop) : Prop where
 out : ∀ {H : Type} {enc : TypeId × Value → H} {W : World} {base : Nat} {sp : Nat → Bool} {held : Bool} {fuel : Nat} {cs : List Value} {x : DataW H × List MemPlace},
  (∀ n ∈ x.1.weights P t, n ≤ reachBytes) → DataW.trod enc P W base sp held fuel t cs = some x → ∃ y, K.K W y cs ∧ Q y
section
variable {P : Program}
theorem opens_string {t : TypeId} (ht : P.underlying t = some .string) : Opens P t Kd.string (fun s => s.size ≤ 140737488351232) := by
 constructor
 intro H enc W base sp held fuel cs x hw h
 obtain ⟨s, rfl, rfl, hs⟩ : ∃ s : ByteArray, cs = [.string s] ∧ x = (.lit (.string s.data.toList), []) ∧ s.size ≤ maxLen := by
  cases fuel with
  | zero => simp [DataW.trod] at h
  | succ n =>
   unfold DataW.trod at h
   rw [ht] at h
   split at h <;> simp_all
 refine ⟨s, rfl, ?_⟩
 have := hw s.data.toList.length (by simp [DataW.weights])
 rw [Array.length_toList] at this
 exact this
theorem opens_int {t : TypeId} {q : IntKind} (ht : P.underlying t = some (.int q)) : Opens P t (Kd.int q) (fun n => (Lit.int q n).wf = true) := by
 constructor
 intro H enc W base sp held fuel cs x hw h
 obtain ⟨n, rfl, hs⟩ : ∃ n : Int, cs = [.int q n] ∧ (Lit.int q n).wf = true := by
  cases fuel with
  | zero => simp [DataW.trod] at h
  | succ n =>
   unfold DataW.trod at h
   rw [ht] at h
   split at h <;> simp_all
 exact ⟨n, rfl, hs⟩
theorem opens_bool {t : TypeId} (ht : P.underlying t = some .bool) : Opens P t Kd.bool (fun _ => True) := by
 constructor
 intro H enc W base sp held fuel cs x hw h
 obtain ⟨b, rfl⟩ : ∃ b : Bool, cs = [.bool b] := by
  cases fuel with
  | zero => simp [DataW.trod] at h
  | succ n =>
   unfold DataW.trod at h
   rw [ht] at h
   split at h <;> simp_all
 exact ⟨b, rfl, trivial⟩
theorem weights_all {H : Type} {e : TypeId} : ∀ {ds : List (DataW H)} {d : DataW H}, d ∈ ds → ∀ n ∈ d.weights P e, n ∈ DataW.weightsAll P e ds
 | d0 :: ds, d, hd, n, hn => by
  simp only [DataW.weightsAll, List.mem_append]
  rcases List.mem_cons.mp hd with rfl | h
  ·exact .inl hn
  ·exact .inr (weights_all h n hn)
theorem choose_list {α : Type} {p : Nat → α → Prop} : ∀ {n : Nat}, (∀ i, i < n → ∃ y, p i y) → ∃ ys : List α, ys.length = n ∧ ∀ i y, ys[i]? = some y → p i y
 | 0, _ => ⟨[], rfl, fun i y h => by simp at h⟩
 | n + 1, h => by
  obtain ⟨ys, hl, hy⟩ := choose_list (n := n) (fun i hi => h i (by omega))
  obtain ⟨y, hp⟩ := h n (by omega)
  refine ⟨ys ++ [y], by simp [hl], fun i z hz => ?_⟩
  by_cases hi : i < n
  ·rw [List.getElem?_append_left (by omega)] at hz
   exact hy i z hz
  ·have := (List.getElem?_eq_some_iff.mp hz).1
   simp at this
   have e : i = n := by omega
   subst e
   rw [List.getElem?_append_right (by omega)] at hz
   simp [hl] at hz
   subst hz
   exact hp
theorem opens_slice {α : Type} {t e : TypeId} {K : Kd α} {Q : α → Prop} (he : Opens P e K Q) (ht : P.underlying t = some (.slice e)) (hc : P.cellsOf e = K.sz) (bytes : Nat) (hb : P.bytesOf e = bytes) :
  Opens P t (Kd.slice e K) (fun l => l.length * bytes ≤ 140737488351232 ∧ ∀ x ∈ l, Q x) := by
 constructor
 intro H enc W base sp held fuel cs x hw h
 rcases Deep.open_slice ht h with ⟨rfl, rfl⟩ | ⟨a, len, cap, m, n, D, Pl, rfl, _, hl, hm, hmm, rfl, hel⟩
 ·exact ⟨[], ⟨none, 0, rfl, Nat.le_refl _, Kd.C_nil K W⟩, by simp, by simp⟩
 ·have hlm : len ≤ m := by rw [hmm]; split <;> omega
  have hw' : ∀ i, i < len → ∀ k ∈ (D i).weights P e, k ≤ reachBytes := fun i hi k hk => hw k (by
   simp only [DataW.weights, ht, List.mem_cons, List.mem_append]
   exact .inr (.inl (weights_all (List.mem_map.mpr ⟨i, by simpa using hi, rfl⟩) k hk)))
  obtain ⟨ys, hys, hY⟩ := choose_list (n := len) (p := fun i y => (∃ c, c.length = K.sz ∧ K.K W y c ∧ ∀ j u, c[j]? = some u → W.cell? (a.add (i * K.sz + j)) = some u) ∧ Q y) (fun i hi => by
   obtain ⟨c, h1, h2⟩ := hel i (by omega)
   obtain ⟨y, hy, hq⟩ := he.out (hw' i hi) h2
   obtain ⟨_, h3, h4⟩ := World.cells?_some h1
   rw [hc] at h3 h4
   refine ⟨y, ⟨c, h3, hy, fun j u hu => ?_⟩, hq⟩
   have hj : j < K.sz := by
    have := (List.getElem?_eq_some_iff.mp hu).1
    omega
   have h5 := h4 j hj
   rw [Addr.add_add] at h5
   rw [h5, hu])
  have hlen : len ≤ maxLen := by omega
  refine ⟨ys, ⟨some a, cap, by rw [hys], by omega, rfl, by rw [hys]; unfold maxLen at hlen; omega, fun _ => ⟨a, rfl, fun j p hj => (hY j p hj).1⟩⟩, ?_, ?_⟩
  ·have := hw ((((List.range len).map D).length + ((List.range (m - len)).map fun j => D (len + j)).length) * P.bytesOf e) (by simp [DataW.weights, ht])
   rw [hb] at this
   simp only [List.length_map, List.length_range] at this
   have h2 : len * bytes ≤ (len + (m - len)) * bytes := Nat.mul_le_mul_right _ (by omega)
   rw [hys]
   unfold reachBytes at this
   omega
  ·intro x hx
   obtain ⟨i, hi, rfl⟩ := List.mem_iff_getElem.mp hx
   exact (hY i _ (List.getElem?_eq_getElem hi)).2
/-- The fields from one on. -/
structure OpensF {α : Type} (P : Program) (fs : List Field) (off : Nat) (K : Kd α) (Q : α → Prop) : Prop where
 out : ∀ {H : Type} {enc : TypeId × Value → H} {W : World} {base : Nat} {sp : Nat → Bool} {held : Bool} {fuel : Nat} {cs : List Value} {xs : List (DataW H × List MemPlace)},
  cs.length = off + K.sz → (∀ n ∈ DataW.weightsEach P (fs.map (·.type)) (xs.map (·.1)), n ≤ reachBytes) → (fs.mapM fun f => DataW.trod enc P W base sp held fuel f.type ((cs.drop f.offset).take (P.cellsOf f.type))) = some xs → ∃ y, K.K W y (cs.drop off) ∧ Q y
theorem opensF_last {α : Type} {f : Field} {off t : Nat} {K : Kd α} {Q : α → Prop} (h : Opens P t K Q) (h0 : f.type = t) (hc : P.cellsOf t = K.sz) (ho : f.offset = off) : OpensF P [f] off K Q := by
 constructor
 intro H enc W base sp held fuel cs xs hl hw hm
 subst h0
 simp only [List.mapM_cons, List.mapM_nil, Option.pure_def, Option.bind_eq_bind, Option.bind_some] at hm
 obtain ⟨x, hx, hm⟩ := Option.bind_eq_some_iff.mp hm
 obtain rfl := Option.some.inj hm
 rw [hc, ho, List.take_of_length_le (by rw [List.length_drop]; omega)] at hx
 exact h.out (fun n hn => hw n (by simp [DataW.weightsEach, hn])) hx
theorem opensF_cons {α β : Type} {f : Field} {fs : List Field} {off t : Nat} {K : Kd α} {K1 : Kd β} {Q : α → Prop} {Q1 : β → Prop} (h : Opens P t K Q) (h0 : f.type = t) (hc : P.cellsOf t = K.sz) (ho : f.offset = off) (h1 : OpensF P fs (off + K.sz) K1 Q1) :
  OpensF P (f :: fs) off (Kd.pair K K1) (fun p => Q p.1 ∧ Q1 p.2) := by
 constructor
 intro H enc W base sp held fuel cs xs hl hw hm
 subst h0
 have hl : cs.length = off + (K.sz + K1.sz) := hl
 rw [List.mapM_cons] at hm
 simp only [Option.pure_def, Option.bind_eq_bind] at hm
 obtain ⟨x, hx, hm⟩ := Option.bind_eq_some_iff.mp hm
 obtain ⟨xs', hxs, hm⟩ := Option.bind_eq_some_iff.mp hm
 obtain rfl := Option.some.inj hm
 rw [hc, ho] at hx
 obtain ⟨y, hy, hq⟩ := h.out (fun n hn => hw n (by simp only [List.map_cons, DataW.weightsEach, List.mem_append]; exact .inl hn)) hx
 obtain ⟨z, hz, hq1⟩ := h1.out (by omega) (fun n hn => hw n (by simp only [List.map_cons, DataW.weightsEach, List.mem_append]; exact .inr hn)) hxs
 refine ⟨(y, z), ⟨(cs.drop off).take K.sz, cs.drop (off + K.sz), ?_, hy, hz⟩, hq, hq1⟩
 rw [← List.drop_drop, List.take_append_drop]
theorem opens_struct {α β : Type} {t : TypeId} {fs : Array Field} {K : Kd α} {Q : α → Prop} (ht : P.underlying t = some (.struct fs)) (h : OpensF P fs.toList 0 K Q) (hc : P.cellsOf t = K.sz) (g : β → α) (g' : α → β) (hg : ∀ y, g (g' y) = y) : Opens P t (Kd.iso K g) (fun x => Q (g x)) := by
 constructor
 intro H enc W base sp held fuel cs x hw hm
 cases fuel with
 | zero => simp [DataW.trod] at hm
 | succ n =>
  unfold DataW.trod at hm
  rw [ht] at hm
  simp only at hm
  split at hm
  ·rename_i hl
   obtain ⟨xs, hxs, rfl⟩ := Option.map_eq_some_iff.mp hm
   obtain ⟨y, hy, hq⟩ := h.out (cs := cs) (xs := xs) (by rw [hl, hc]; omega) (fun n hn => hw n (by simp only [DataW.weights, ht]; exact hn)) hxs
   exact ⟨g' y, by show K.K W (g (g' y)) cs; rw [hg]; simpa using hy, by show Q (g (g' y)); rw [hg]; exact hq⟩
  ·cases hm
theorem opens_struct' {α β : Type} {t : TypeId} {fs : Array Field} {K : Kd α} {Q : α → Prop} {k : Kd β} {WF : β → Prop} (g' : α → β) (g : β → α) (ht : P.underlying t = some (.struct fs)) (h : OpensF P fs.toList 0 K Q) (hc : P.cellsOf t = K.sz) (hk : k = Kd.iso K g) (hg : ∀ y, g (g' y) = y) (hQ : ∀ x, Q (g x) → WF x) : Opens P t k WF := by
 subst hk
 constructor
 intro H enc W base sp held fuel cs x hw hm
 obtain ⟨y, h1, h2⟩ := (opens_struct ht h hc g g' hg).out hw hm
 exact ⟨y, h1, hQ y h2⟩
end
/-- What came in, as a row that is shared. -/
theorem came_V {α : Type} {d : Kd α} {e : Nat} {w : World} {A : Option Addr} {c : Nat} {xs : List α} (hd : Kd.Heap d) (h : d.C w A xs.length xs) (hc : xs.length ≤ c) : Kd.V d e w w.heap.size (fun k_ => k_ < w.heap.size) (.slice A xs.length c) xs :=
 Kd.V_mk hc (fun W' hW => hd.C (fun k hk => hW k hk hk) h)
end Go.Proofs.YtcmppjonpmgncaaDoor.Q

namespace Go.Proofs.YtcmppjonpmgncaaDoor.Q
open Go.RowKit Go.Proofs.YtcmppjonpmgncaaDoorW.PrintWords Go.Proofs.YtcmppjonpmgncaaDoorW.PrintLast Go.Proofs.YtcmppjonpmgncaaDoorW.PrintMore
set_option linter.unusedVariables false
set_option linter.unusedSimpArgs false

end Go.Proofs.YtcmppjonpmgncaaDoor.Q

namespace Go.Proofs.YtcmppjonpmgncaaDoor.Q
open Go.RowKit Go.Proofs.YtcmppjonpmgncaaDoorW.PrintWords Go.Proofs.YtcmppjonpmgncaaDoorW.PrintLast Go.Proofs.YtcmppjonpmgncaaDoorW.PrintMore
set_option linter.unusedVariables false
set_option linter.unusedSimpArgs false
def NumParts.Pure : Prop := ∀ (a0 : Int) (a1 : Int), (fun n : Int => (Lit.int .i64 n).wf = true) a0 → (fun n : Int => (Lit.int .i64 n).wf = true) a1 → ∃ k, truantlaw01_NumParts.f k a0 a1 = some true
end Go.Proofs.YtcmppjonpmgncaaDoor.Q

/- Small words on 'from some number of rounds on'. -/

namespace Go.Proofs.YtcmppjonpmgncaaDoor.Q
open Go.RowKit Go.Proofs.YtcmppjonpmgncaaDoorW.PrintWords Go.Proofs.YtcmppjonpmgncaaDoorW.PrintLast Go.Proofs.YtcmppjonpmgncaaDoorW.PrintMore
set_option linter.unusedVariables false
set_option linter.unusedSimpArgs false
section
variable {α : Type}
theorem Ev.pos {c : Prop} [Decidable c] {A B : Nat → Option α} {r : α} (h : c) (k : Ev A r) : Ev (fun n => if c then A n else B n) r := Ev.congr (fun n => if_pos h) k
theorem Ev.neg {c : Prop} [Decidable c] {A B : Nat → Option α} {r : α} (h : ¬ c) (k : Ev B r) : Ev (fun n => if c then A n else B n) r := Ev.congr (fun n => if_neg h) k
theorem Ev.one {β : Type} {a : Option β} {b : β} {f : Nat → β → Option α} {r : α} (h : a = some b) (k : Ev (fun n => f n b) r) : Ev (fun n => a.bind (f n)) r := Ev.congr (fun n => by rw [h]; rfl) k
theorem Ev.eq {g : Nat → Option α} {r r' : α} (k : Ev g r) (h : r = r') : Ev g r' := h ▸ k
theorem Ev.det {g : Nat → Option α} {r r' : α} (k : Ev g r) (h : Ev g r') : r = r' := by
 obtain ⟨K, k⟩ := k
 obtain ⟨K', h⟩ := h
 have h1 := k (max K K') (by omega)
 have h2 := h (max K K') (by omega)
 rw [h1] at h2
 exact Option.some.inj h2
theorem Ev.at_ {g : Nat → Option α} {r r' : α} {k : Nat} (hg : ∀ k, LeO (g k) (g (k + 1))) (h : g k = some r) (h' : Ev g r') : r = r' := Ev.det (Ev.of hg h) h'
theorem getD_succ {β : Type} (l : List β) (z : β) (x : β) (i : Nat) : (x :: l).getD (i + 1) z = l.getD i z := rfl
end
end Go.Proofs.YtcmppjonpmgncaaDoor.Q

/- What num's functions answer, op by op: by hand. -/

namespace Go.Proofs.YtcmppjonpmgncaaDoor.Q
open Go.RowKit Go.Proofs.YtcmppjonpmgncaaDoorW.PrintWords Go.Proofs.YtcmppjonpmgncaaDoorW.PrintLast Go.Proofs.YtcmppjonpmgncaaDoorW.PrintMore
set_option linter.unusedVariables false
set_option linter.unusedSimpArgs false
def R64 (x : Int) : Prop := -9223372036854775808 ≤ x ∧ x ≤ 9223372036854775807
theorem R64.of {x : Int} (h : (fun n : Int => (Lit.int .i64 n).wf = true) x) : R64 x := by
 have : (Lit.int .i64 x).wf = true := h
 simpa [Lit.wf, IntKind.min, IntKind.max, IntKind.signed, IntKind.bits, R64] using this
theorem wrap_in (x : Int) : R64 (wrap64 x) := by unfold R64 wrap64; omega
theorem wrap_id {x : Int} (h : R64 x) : wrap64 x = x := by unfold R64 at h; unfold wrap64; omega
theorem wrap_mod (x : Int) : wrap64 x % 18446744073709551616 = x % 18446744073709551616 := by unfold wrap64; omega
theorem wrap_of_mod {a b : Int} (h : a % 18446744073709551616 = b % 18446744073709551616) : wrap64 a = wrap64 b := by unfold wrap64; omega
theorem wrap_mul (a b : Int) : wrap64 (wrap64 a * b) = wrap64 (a * b) := wrap_of_mod (by rw [Int.mul_emod, wrap_mod, ← Int.mul_emod])
theorem shl_is (x : Int) (n : Nat) (h : n ≤ 64) : shl .i64 x n = wrap64 (x * 2 ^ n) := by
 unfold shl
 rw [IntKind.wrap_i64, show min ((n : Int).toNat) IntKind.i64.bits = n by simp [IntKind.bits]; omega]
 unfold wrap64
 rfl
theorem shr_is (x : Int) (n : Nat) (h : n ≤ 64) : shr .i64 x n = x / 2 ^ n := by
 unfold shr
 rw [show min ((n : Int).toNat) IntKind.i64.bits = n by simp [IntKind.bits]; omega]
theorem awake_all : ∀ k, truantlaw01_awake.f (k + 30) = some true := by
 have h : truantlaw01_awake.f 30 = some true := by kernel_rfl
 intro k
 induction k with
 | zero => exact h
 | succ k ih => have := truantlaw01_awake.mono (k + 30) _ ih; rwa [show k + 30 + 1 = k + 1 + 30 by omega] at this
theorem do_1 (k : Nat) (x y : Int) : num_Do.f (k + 30) 1 x y = some (wrap64 (x + y), 0) := by simp [num_Do.f, num_Do.j0, num_Do.j1, num_Do.j2, num_IsBinary.f, num_plain.f]
theorem do_2 (k : Nat) (x y : Int) : num_Do.f (k + 30) 2 x y = some (wrap64 (x - y), 0) := by simp [num_Do.f, num_Do.j0, num_Do.j1, num_Do.j2, num_IsBinary.f, num_plain.f]
theorem do_3 (k : Nat) (x y : Int) : num_Do.f (k + 30) 3 x y = some (wrap64 (x * y), 0) := by simp [num_Do.f, num_Do.j0, num_Do.j1, num_Do.j2, num_IsBinary.f, num_plain.f]
theorem do_4 (k : Nat) (x y : Int) : num_Do.f (k + 30) 4 x y = if y = 0 then some (0, 11) else some (wrap64 (Int.tdiv x y), 0) := by
 by_cases h : y = 0 <;> simp [num_Do.f, num_Do.j0, num_Do.j1, num_Do.j2, num_IsBinary.f, num_divide.f, h]
theorem do_5 (k : Nat) (x y : Int) : num_Do.f (k + 30) 5 x y = if y = 0 then some (0, 11) else some (Int.tmod x y, 0) := by
 by_cases h : y = 0 <;> simp [num_Do.f, num_Do.j0, num_Do.j1, num_Do.j2, num_IsBinary.f, num_divide.f, h]
theorem do_6 (k : Nat) (x y : Int) : num_Do.f (k + 30) 6 x y = some (Go.bits .and .i64 x y, 0) := by simp [num_Do.f, num_Do.j0, num_Do.j1, num_Do.j2, num_IsBinary.f, num_plain.f]
theorem do_7 (k : Nat) (x y : Int) : num_Do.f (k + 30) 7 x y = some (Go.bits .or .i64 x y, 0) := by simp [num_Do.f, num_Do.j0, num_Do.j1, num_Do.j2, num_IsBinary.f, num_plain.f]
theorem do_8 (k : Nat) (x y : Int) : num_Do.f (k + 30) 8 x y = some (Go.bits .xor .i64 x y, 0) := by simp [num_Do.f, num_Do.j0, num_Do.j1, num_Do.j2, num_IsBinary.f, num_plain.f]
theorem do_9 (k : Nat) (x y : Int) : num_Do.f (k + 30) 9 x y = num_shift.f 9 x y := by
 simp only [num_Do.f, num_Do.j0, num_Do.j1, num_Do.j2, num_IsBinary.f]
 simp
 cases num_shift.f 9 x y <;> rfl
theorem do_10 (k : Nat) (x y : Int) : num_Do.f (k + 30) 10 x y = num_shift.f 10 x y := by
 simp only [num_Do.f, num_Do.j0, num_Do.j1, num_Do.j2, num_IsBinary.f]
 simp
 cases num_shift.f 10 x y <;> rfl
theorem shl_val {x y : Int} (hy : R64 y) : num_shift.f 9 x y = if y < 0 then some (0, 12) else some (if y ≥ 64 then 0 else wrap64 (x * 2 ^ y.toNat), 0) := by
 unfold num_shift.f
 by_cases h1 : y < 0
 ·simp [h1]
 ·rw [if_neg h1, if_neg h1, if_neg (by decide)]
  by_cases h2 : y ≥ 64
  ·simp [h2]
  ·obtain ⟨n, rfl⟩ : ∃ n : Nat, y = n := ⟨y.toNat, by omega⟩
   rw [if_neg h2, if_neg h2]
   have e : IntKind.u64.wrap (n : Int) = n := by rw [IntKind.wrap_u64]; omega
   rw [e, if_pos (by omega), shl_is _ _ (by omega)]
   rfl
theorem shr_val {x y : Int} (hy : R64 y) : num_shift.f 10 x y = if y < 0 then some (0, 12) else some (x / 2 ^ (min y.toNat 63), 0) := by
 unfold num_shift.f
 by_cases h1 : y < 0
 ·simp [h1]
 ·rw [if_neg h1, if_neg h1, if_pos rfl]
  obtain ⟨n, rfl⟩ : ∃ n : Nat, y = n := ⟨y.toNat, by omega⟩
  have e : IntKind.u64.wrap (mn (n : Int) 63) = ((min n 63 : Nat) : Int) := by rw [IntKind.wrap_u64]; unfold mn; split <;> omega
  rw [e, if_pos (by omega), shr_is _ _ (by omega)]
  rfl
end Go.Proofs.YtcmppjonpmgncaaDoor.Q

/- The plain law of NumParts: by hand. -/

namespace Go.Proofs.YtcmppjonpmgncaaDoor.Q
open Go.RowKit Go.Proofs.YtcmppjonpmgncaaDoorW.PrintWords Go.Proofs.YtcmppjonpmgncaaDoorW.PrintLast Go.Proofs.YtcmppjonpmgncaaDoorW.PrintMore
set_option linter.unusedVariables false
set_option linter.unusedSimpArgs false
theorem tmod_sign (x y : Int) : Int.tmod x y = 0 ∨ (decide (Int.tmod x y < 0)) = (decide (x < 0)) := by
 by_cases h : x < 0
 ·have h1 := Int.tmod_nonneg y (show 0 ≤ -x by omega)
  rw [Int.neg_tmod] at h1
  by_cases h0 : Int.tmod x y = 0
  ·exact .inl h0
  ·right; simp [h]; omega
 ·have h1 := Int.tmod_nonneg y (show 0 ≤ x by omega)
  right
  simp [h]; omega
theorem parts_back {x y : Int} (hx : R64 x) : wrap64 (wrap64 (wrap64 (Int.tdiv x y) * y) + Int.tmod x y) = x := by
 rw [wrap_mul]
 have e : wrap64 (wrap64 (Int.tdiv x y * y) + Int.tmod x y) = wrap64 (Int.tdiv x y * y + Int.tmod x y) := wrap_of_mod (by rw [Int.add_emod, wrap_mod, ← Int.add_emod])
 rw [e, Int.mul_comm, Int.mul_tdiv_add_tmod, wrap_id hx]
theorem NumParts_pure : NumParts.Pure := by
 intro x y hx hy
 have hx := R64.of hx
 have hy := R64.of hy
 have tail : (if y = 0 then (some true : Option Bool) else some true) = some true := by split <;> rfl
 refine ⟨0 + 30, ?_⟩
 have e1 : wrap64 (wrap64 (x + y) - y) = x := by unfold R64 at hx; unfold wrap64; omega
 have e9 : num_shift.f 9 x 1 = some (wrap64 (x + x), 0) := by rw [← show x * 2 = x + x by omega, shl_val (by unfold R64; omega)]; rfl
 have e10 : num_shift.f 10 (wrap64 (x + x)) 1 = some (wrap64 (x + x) / 2, 0) := by rw [shr_val (by unfold R64; omega)]; rfl
 have e3 : -4611686018427387904 ≤ x → x < 4611686018427387904 → wrap64 (x + x) / 2 = x := by intro h1 h2; unfold wrap64; omega
 unfold truantlaw01_NumParts.f
 simp only [awake_all, Option.bind_some, if_true, do_1, do_2, do_9, do_10, e9, e10, e1]
 by_cases hy0 : y = 0
 ·subst hy0
  by_cases h1 : x ≥ -4611686018427387904
  ·by_cases h2 : x < 4611686018427387904
   ·simp [h1, h2, e3 h1 h2, do_4, do_5]
   ·simp [h1, h2, do_4, do_5]
  ·simp [h1, do_4, do_5]
 ·have hb := parts_back (y := y) hx
  rcases tmod_sign x y with h0 | hs
  ·by_cases h1 : x ≥ -4611686018427387904
   ·by_cases h2 : x < 4611686018427387904
    ·simp only [h1, h2, e3 h1 h2, do_4, do_5, do_3, do_1, hy0, if_true, if_false, Option.bind_some, hb]; simp [h0]
    ·simp only [h1, h2, do_4, do_5, do_3, do_1, hy0, if_true, if_false, Option.bind_some, hb]; simp [h0]
   ·simp only [h1, do_4, do_5, do_3, do_1, hy0, if_true, if_false, Option.bind_some, hb]; simp [h0]
  ·by_cases h1 : x ≥ -4611686018427387904
   ·by_cases h2 : x < 4611686018427387904
    ·simp only [h1, h2, e3 h1 h2, do_4, do_5, do_3, do_1, hy0, if_true, if_false, Option.bind_some, hb, hs]; simp
    ·simp only [h1, h2, do_4, do_5, do_3, do_1, hy0, if_true, if_false, Option.bind_some, hb, hs]; simp
   ·simp only [h1, do_4, do_5, do_3, do_1, hy0, if_true, if_false, Option.bind_some, hb, hs]; simp
end Go.Proofs.YtcmppjonpmgncaaDoor.Q

/- From what the row lists to what the calls read of the package-level variables: by hand. -/
namespace Go.Proofs.YtcmppjonpmgncaaDoor.Q
open Go.RowKit Go.Proofs.YtcmppjonpmgncaaDoorW.PrintWords Go.Proofs.YtcmppjonpmgncaaDoorW.PrintLast Go.Proofs.YtcmppjonpmgncaaDoorW.PrintMore
set_option linter.unusedVariables false
set_option linter.unusedSimpArgs false
theorem gES : Tryd.prog.globalNamed "strconv.ErrSyntax" = some 0 := by kernel_rfl
theorem gER : Tryd.prog.globalNamed "strconv.ErrRange" = some 1 := by kernel_rfl
theorem gPow : Tryd.prog.globalNamed "internal/strconv.uint64pow10" = some 2 := by kernel_rfl
theorem gESType : (Tryd.prog.globals[0]?).map (·.type) = some 60 := by kernel_rfl
theorem gERType : (Tryd.prog.globals[1]?).map (·.type) = some 60 := by kernel_rfl
theorem gPowType : (Tryd.prog.globals[2]?).map (·.type) = some 102 := by kernel_rfl
theorem cellsES : Tryd.prog.cellsOf 101 = 1 := by kernel_rfl
theorem cellsStr : Tryd.prog.cellsOf 9 = 1 := by kernel_rfl
theorem cellsU64 : Tryd.prog.cellsOf 63 = 1 := by kernel_rfl
theorem cellsPow : Tryd.prog.cellsOf 102 = 20 := by kernel_rfl
theorem star_ : "*" ++ "errors.errorString" = "*errors.errorString" := by decide
theorem rowES (u : TypeId) (h : Tryd.prog.typeName? 3 u = some "*errors.errorString") : u = 99 :=
 typeName_ptr_named (nm := "errors.errorString") (by rw [star_]; kernel_rfl) (by kernel_rfl) (by decide) u (by rw [star_]; exact h)
theorem powData : (Rows.laid_internal_strconv_uint64pow10 : DataW Unit) = Lib.tabData .u64 Lib.pow10Tab := by kernel_rfl
def listed : List (String × DataW Unit) := [("math/bits.deBruijn32tab", Rows.laid_math_bits_deBruijn32tab), ("math/bits.deBruijn64tab", Rows.laid_math_bits_deBruijn64tab), ("internal/strconv.uint64pow10", Rows.laid_internal_strconv_uint64pow10), ("unicode/utf8.acceptRanges", Rows.laid_unicode_utf8_acceptRanges), ("strconv.ErrRange", Rows.laid_strconv_ErrRange), ("strconv.ErrSyntax", Rows.laid_strconv_ErrSyntax), ("unicode/utf8.first", Rows.laid_unicode_utf8_first)]
theorem glob_of_laid {W : World} (h : laidMetH Tryd.prog listed W) : Glob W := by
 rw [MakeChecks.laidMetH_plain _ _ _ (by kernel_rfl)] at h
 have h2 := h.tail.tail
 have h4 := h2.tail.tail
 have h5 := h4.tail
 rw [powData] at h2
 have a := Lib.tabIs_of_head gPow gPowType Tryd.underlying102 Tryd.underlying63 cellsU64 cellsPow h2
 obtain ⟨p4, _, v4, _, _, _⟩ := laid_sentinel h4 gER gERType Tryd.underlying60 rowES Tryd.underlying99 Tryd.underlying101 rfl rfl Tryd.underlying9 cellsES cellsStr
 obtain ⟨p5, _, v5, _, _, _⟩ := laid_sentinel h5 gES gESType Tryd.underlying60 rowES Tryd.underlying99 Tryd.underlying101 rfl rfl Tryd.underlying9 cellsES cellsStr
 exact ⟨a, ⟨_, _, v5⟩, ⟨_, _, v4⟩⟩
end Go.Proofs.YtcmppjonpmgncaaDoor.Q
