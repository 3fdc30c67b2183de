/- What the row of SccOrder rests on, part 3: contracts of the functions that it reaches, and the plain law. -/
import Derived.Test.YtclhjalgflebfaaJSccOrder2
/- Scc, plain: to whom a function comes is who can be reached by calls. -/
namespace Go.Proofs.Ytclhjalgflebfaa.Q
open Go.RowKit Go.Proofs.YtclhjalgflebfaaW.PrintWords Go.Proofs.YtclhjalgflebfaaW.PrintLast Go.Proofs.YtclhjalgflebfaaW.PrintMore
set_option linter.unusedVariables false
set_option linter.unusedSimpArgs false
inductive Path (cl : Int → List Int) : Int → Int → Prop
 | one {x y : Int} (h : y ∈ cl x) : Path cl x y
 | step {x y z : Int} (h : Path cl x y) (h2 : z ∈ cl y) : Path cl x z
theorem Path.trans {cl : Int → List Int} {x y z : Int} (h : Path cl x y) (k : Path cl y z) : Path cl x z := by
 induction k with
 | one h2 => exact .step h h2
 | step _ h2 ih => exact .step ih h2
theorem Path.head {cl : Int → List Int} {x y z : Int} (h : y ∈ cl x) (k : Path cl y z) : Path cl x z := (Path.one h).trans k
def rngI (n : Nat) : List Int := (List.range n).map (fun i : Nat => (i : Int))
theorem rngI_mem {n : Nat} {x : Int} : x ∈ rngI n ↔ inR n x = true := by
 unfold rngI
 rw [List.mem_map, inR_iff]
 constructor
 ·rintro ⟨i, hi, rfl⟩
  rw [List.mem_range] at hi
  omega
 ·rintro ⟨h0, h1⟩
  exact ⟨x.toNat, List.mem_range.mpr (by omega), by omega⟩
theorem rngI_len (n : Nat) : (rngI n).length = n := by unfold rngI; simp
theorem in_le {n : Nat} {l : List Int} (hn : l.Nodup) (h : ∀ x ∈ l, inR n x = true) : l.length ≤ n := by
 have := len_le_sub (r := rngI n) hn (fun z hz => rngI_mem.mpr (h z hz))
 rwa [rngI_len] at this
section
variable {cl : Int → List Int} {n : Nat}
theorem comesG_ok (hin : ∀ x, ∀ y ∈ cl x, inR n y = true) (hlen : ∀ x, (cl x).length ≤ n) (hn : n ≤ 30) : ∀ (k : Nat) (todo out : List Int), out.Nodup → (∀ x ∈ out, inR n x = true) → (∀ x ∈ todo, inR n x = true) → (∀ x ∈ out, ∀ y ∈ cl x, y ∈ out ∨ y ∈ todo) → todo.length + (n - out.length) * n < k → todo.length + (n - out.length) * n ≤ 100000 →
  ∃ r, comesG (fun x => some (cl x)) k todo out = some r ∧ r.Nodup ∧ (∀ x ∈ r, inR n x = true) ∧ (∀ x ∈ out, x ∈ r) ∧ (∀ x ∈ todo, x ∈ r) ∧ (∀ x ∈ r, ∀ y ∈ cl x, y ∈ r) ∧ ∀ x ∈ r, x ∈ out ∨ ∃ t ∈ todo, t = x ∨ Path cl t x
 | 0, _, _, _, _, _, _, hk, _ => absurd hk (by omega)
 | k + 1, todo, out, hnd, ho, ht, hc, hk, hb => by
  unfold comesG
  by_cases hp : 0 < todo.length
  ·rw [if_pos hp]
   obtain ⟨x, hx⟩ : ∃ x, x = rd todo ((todo.length - 1 : Nat) : Int) := ⟨_, rfl⟩
   obtain ⟨tk, htk⟩ : ∃ tk, tk = todo.take (todo.length - 1) := ⟨_, rfl⟩
   have hxx : x = todo[todo.length - 1] := by rw [hx]; unfold rd; rw [Int.toNat_natCast, getD_at _ _ (by omega)]
   have hsplit : todo = tk ++ [x] := by
    rw [htk, hxx, ← List.take_succ_eq_append_getElem (by omega), List.take_of_length_le (by omega)]
   have hxm : x ∈ todo := by rw [hsplit]; simp
   have htl : tk.length + 1 = todo.length := by
    conv => rhs; rw [hsplit]
    simp
   have htkm : ∀ y ∈ tk, y ∈ todo := fun y hy => by rw [hsplit]; exact List.mem_append_left _ hy
   rw [← hx, ← htk]
   cases hcx : out.contains x with
   | true =>
    have hxo := List.contains_iff_mem.mp hcx
    rw [if_neg (by decide)]
    obtain ⟨r, h1, h2, h3, h4, h5, h6, h7⟩ := comesG_ok hin hlen hn k tk out hnd ho (fun y hy => ht y (htkm y hy)) (fun y hy z hz => (hc y hy z hz).elim .inl (fun h => by
     rw [hsplit] at h
     rcases List.mem_append.mp h with h | h
     ·exact .inr h
     ·rw [List.mem_singleton.mp h]; exact .inl hxo)) (by omega) (by omega)
    refine ⟨r, h1, h2, h3, h4, fun y hy => ?_, h6, fun y hy => ?_⟩
    ·rw [hsplit] at hy
     rcases List.mem_append.mp hy with hy | hy
     ·exact h5 y hy
     ·rw [List.mem_singleton.mp hy]; exact h4 x hxo
    ·rcases h7 y hy with h | ⟨t, ht1, ht2⟩
     ·exact .inl h
     ·exact .inr ⟨t, htkm t ht1, ht2⟩
   | false =>
    have hxo : x ∉ out := fun h => by rw [List.contains_iff_mem.mpr h] at hcx; cases hcx
    have hnd2 : (out ++ [x]).Nodup := List.nodup_append.mpr ⟨hnd, by simp, fun a ha c hc e => hxo (by rw [List.mem_singleton] at hc; rw [← hc, ← e]; exact ha)⟩
    have ho2 : ∀ y ∈ out ++ [x], inR n y = true := fun y hy => (List.mem_append.mp hy).elim (ho y) (fun e => by rw [List.mem_singleton.mp e]; exact ht x hxm)
    have hle := in_le hnd2 ho2
    rw [List.length_append, List.length_singleton] at hle
    have hcl := hlen x
    have hmul : (n - out.length) * n = (n - (out.length + 1)) * n + n := by
     rw [show n - out.length = (n - (out.length + 1)) + 1 by omega, Nat.succ_mul]
    rw [if_pos rfl, Option.bind_some, if_pos (by unfold LIMS; omega)]
    obtain ⟨r, h1, h2, h3, h4, h5, h6, h7⟩ := comesG_ok hin hlen hn k (tk ++ cl x) (out ++ [x]) hnd2 ho2 (fun y hy => (List.mem_append.mp hy).elim (fun h => ht y (htkm y h)) (hin x y)) (fun y hy z hz => by
     rcases List.mem_append.mp hy with hy | hy
     ·rcases hc y hy z hz with h | h
      ·exact .inl (List.mem_append_left _ h)
      ·rw [hsplit] at h
       rcases List.mem_append.mp h with h | h
       ·exact .inr (List.mem_append_left _ h)
       ·exact .inl (List.mem_append_right _ h)
     ·rw [List.mem_singleton.mp hy] at hz
      exact .inr (List.mem_append_right _ hz)) (by rw [List.length_append, List.length_append, List.length_singleton]; omega) (by rw [List.length_append, List.length_append, List.length_singleton]; omega)
    refine ⟨r, h1, h2, h3, fun y hy => h4 y (List.mem_append_left _ hy), fun y hy => ?_, h6, fun y hy => ?_⟩
    ·rw [hsplit] at hy
     rcases List.mem_append.mp hy with hy | hy
     ·exact h5 y (List.mem_append_left _ hy)
     ·rw [List.mem_singleton.mp hy]; exact h4 x (by simp)
    ·rcases h7 y hy with h | ⟨t, ht1, ht2⟩
     ·rcases List.mem_append.mp h with h | h
      ·exact .inl h
      ·rw [List.mem_singleton.mp h]; exact .inr ⟨x, hxm, .inl rfl⟩
     ·rcases List.mem_append.mp ht1 with h | h
      ·exact .inr ⟨t, htkm t h, ht2⟩
      ·exact .inr ⟨x, hxm, .inr (ht2.elim (fun e => by rw [← e]; exact .one h) (fun h2 => .head h h2))⟩
  ·rw [if_neg hp, if_pos (by have := in_le hnd ho; unfold LIMS; omega)]
   have h0 : todo = [] := List.eq_nil_of_length_eq_zero (by omega)
   subst h0
   exact ⟨out, rfl, hnd, ho, fun x hx => hx, fun x hx => (nomatch hx), fun x hx y hy => (hc x hx y hy).elim id (fun h => (nomatch h)), fun x hx => .inl hx⟩
/-- Whom a stack begun with l comes to. -/
theorem comes_path (hin : ∀ x, ∀ y ∈ cl x, inR n y = true) (hlen : ∀ x, (cl x).length ≤ n) (hn : n ≤ 30) (a : Int) : ∃ r, comesG (fun x => some (cl x)) FUEL (cl a) [] = some r ∧ r.Nodup ∧ (∀ x ∈ r, inR n x = true) ∧ ∀ y, y ∈ r ↔ Path cl a y := by
 have h0 : n * n ≤ 30 * 30 := Nat.mul_le_mul hn hn
 have hl := hlen a
 obtain ⟨r, h1, h2, h3, _, h5, h6, h7⟩ := comesG_ok hin hlen hn FUEL (cl a) [] List.nodup_nil (fun x hx => (nomatch hx)) (hin a) (fun x hx => (nomatch hx)) (by simp only [List.length_nil, Nat.sub_zero]; unfold FUEL; omega) (by simp only [List.length_nil, Nat.sub_zero]; omega)
 refine ⟨r, h1, h2, h3, fun y => ⟨fun hy => ?_, fun hy => ?_⟩⟩
 ·rcases h7 y hy with h | ⟨t, ht1, ht2⟩
  ·cases h
  ·exact ht2.elim (fun e => by rw [← e]; exact .one ht1) (fun h => .head ht1 h)
 ·induction hy with
  | one h => exact h5 _ h
  | step _ h2 ih => exact h6 _ ih _ h2
end
def Eqv (cl : Int → List Int) (i j : Int) : Prop := i = j ∨ (Path cl i j ∧ Path cl j i)
theorem Eqv.symm {cl : Int → List Int} {i j : Int} (h : Eqv cl i j) : Eqv cl j i := h.imp Eq.symm And.symm
theorem Eqv.trans {cl : Int → List Int} {i j k : Int} (h : Eqv cl i j) (h2 : Eqv cl j k) : Eqv cl i k := by
 rcases h with rfl | ⟨a, b⟩
 ·exact h2
 ·rcases h2 with rfl | ⟨c, d⟩
  ·exact .inr ⟨a, b⟩
  ·exact .inr ⟨a.trans c, d.trans b⟩
theorem Eqv.path {cl : Int → List Int} {i j x : Int} (h : Eqv cl i j) (k : Path cl j x) : Path cl i x := h.elim (fun e => by rw [e]; exact k) (fun h => h.1.trans k)
theorem Eqv.path' {cl : Int → List Int} {i j x : Int} (h : Eqv cl i j) (k : Path cl x i) : Path cl x j := h.elim (fun e => by rw [← e]; exact k) (fun h => k.trans h.1)
/-- Rows of whom each comes to, and knots. -/
structure SG (cl : Int → List Int) (n : Nat) (rows : List (List Int)) (kn : List Int) : Prop where
 rl : rows.length = n
 kn : kn = knP rows n
 mem : ∀ i : Int, inR n i = true → ∀ y, y ∈ rd_L6 rows i ↔ Path cl i y
 inr : ∀ x y, Path cl x y → inR n y = true
theorem fold_least (rows : List (List Int)) (i : Int) : ∀ (l : List Int) (m0 : Int), (l.foldl (leastS rows i) m0 = m0 ∨ (l.foldl (leastS rows i) m0 ∈ l ∧ (rd_L6 rows (l.foldl (leastS rows i) m0)).contains i = true)) ∧ l.foldl (leastS rows i) m0 ≤ m0 ∧ ∀ k ∈ l, (rd_L6 rows k).contains i = true → l.foldl (leastS rows i) m0 ≤ k
 | [], m0 => ⟨.inl rfl, Int.le_refl _, fun k hk => (nomatch hk)⟩
 | x :: l, m0 => by
  rw [List.foldl_cons]
  obtain ⟨h1, h2, h3⟩ := fold_least rows i l (leastS rows i m0 x)
  have hs : (leastS rows i m0 x = m0 ∨ (leastS rows i m0 x = x ∧ (rd_L6 rows x).contains i = true)) ∧ leastS rows i m0 x ≤ m0 ∧ ((rd_L6 rows x).contains i = true → leastS rows i m0 x ≤ x) := by
   unfold leastS
   split
   ·rename_i hc
    split
    ·exact ⟨.inr ⟨rfl, hc⟩, by omega, fun _ => Int.le_refl _⟩
    ·exact ⟨.inl rfl, Int.le_refl _, fun _ => by omega⟩
   ·rename_i hc
    exact ⟨.inl rfl, Int.le_refl _, fun h => absurd h hc⟩
  refine ⟨?_, Int.le_trans h2 hs.2.1, fun k hk hc => ?_⟩
  ·rcases h1 with h1 | ⟨h1, h4⟩
   ·rw [h1]
    rcases hs.1 with h | ⟨h, h5⟩
    ·exact .inl h
    ·exact .inr ⟨by rw [h]; simp, by rw [h]; exact h5⟩
   ·exact .inr ⟨List.mem_cons_of_mem _ h1, h4⟩
  ·rcases List.mem_cons.mp hk with e | hk
   ·subst e; exact Int.le_trans h2 (hs.2.2 hc)
   ·exact h3 k hk hc
section
variable {cl : Int → List Int} {n : Nat} {rows : List (List Int)} {kn : List Int}
theorem SG.len (h : SG cl n rows kn) : kn.length = n := by rw [h.kn, knP_len]
theorem SG.at_ (h : SG cl n rows kn) {i : Int} (hi : inR n i = true) : kn.getD i.toNat 0 = leastR rows i.toNat := by
 obtain ⟨h0, h1⟩ := inR_iff.mp hi
 rw [h.kn, getD_at _ _ (by rw [knP_len]; omega)]
 unfold knP
 simp
theorem SG.least (h : SG cl n rows kn) {i : Int} (hi : inR n i = true) : Eqv cl i (kn.getD i.toNat 0) ∧ inR n (kn.getD i.toNat 0) = true ∧ ∀ j, inR n j = true → Eqv cl i j → kn.getD i.toNat 0 ≤ j := by
 rw [h.at_ hi]
 obtain ⟨h0, h1⟩ := inR_iff.mp hi
 have ei : ((i.toNat : Nat) : Int) = i := by omega
 have er : rows.getD i.toNat [] = rd_L6 rows i := rfl
 unfold leastR
 rw [ei, er]
 obtain ⟨q1, q2, q3⟩ := fold_least rows i (rd_L6 rows i) i
 refine ⟨?_, ?_, fun j hj he => ?_⟩
 ·rcases q1 with q1 | ⟨q1, q4⟩
  ·rw [q1]; exact .inl rfl
  ·have p1 := (h.mem i hi _).mp q1
   exact .inr ⟨p1, (h.mem _ (h.inr _ _ p1) _).mp (List.contains_iff_mem.mp q4)⟩
 ·rcases q1 with q1 | ⟨q1, q4⟩
  ·rw [q1]; exact hi
  ·exact h.inr _ _ ((h.mem i hi _).mp q1)
 ·rcases he with e | ⟨p1, p2⟩
  ·rw [← e]; exact q2
  ·exact q3 j ((h.mem i hi j).mpr p1) (List.contains_iff_mem.mpr ((h.mem j hj i).mpr p2))
theorem SG.eqv (h : SG cl n rows kn) {i j : Int} (hi : inR n i = true) (hj : inR n j = true) : kn.getD i.toNat 0 = kn.getD j.toNat 0 ↔ Eqv cl i j := by
 obtain ⟨a1, a2, a3⟩ := h.least hi
 obtain ⟨b1, b2, b3⟩ := h.least hj
 constructor
 ·intro e
  rw [e] at a1
  exact a1.trans b1.symm
 ·intro e
  have := a3 _ b2 (e.trans b1)
  have := b3 _ a2 (e.symm.trans a1)
  omega
theorem SG.kn_at (h : SG cl n rows kn) {k : Int} (hk : k ∈ kn) : ∃ i : Int, inR n i = true ∧ kn.getD i.toNat 0 = k := by
 obtain ⟨i, hi, rfl⟩ := List.mem_iff_getElem.mp hk
 have := h.len
 exact ⟨(i : Int), inR_iff.mpr ⟨by omega, by omega⟩, by rw [Int.toNat_natCast, getD_at _ _ hi]⟩
theorem SG.in_kn (h : SG cl n rows kn) {i : Int} (hi : inR n i = true) : kn.getD i.toNat 0 ∈ kn := by
 obtain ⟨h0, h1⟩ := inR_iff.mp hi
 have := h.len
 rw [getD_at _ _ (by omega)]
 exact List.getElem_mem _
theorem SG.kn_self (h : SG cl n rows kn) {k : Int} (hk : k ∈ kn) : inR n k = true ∧ kn.getD k.toNat 0 = k := by
 obtain ⟨i, hi, rfl⟩ := h.kn_at hk
 obtain ⟨a1, a2, _⟩ := h.least hi
 exact ⟨a2, ((h.eqv hi a2).mpr a1).symm⟩
/-- For whom a knot waits. -/
theorem SG.waits (h : SG cl n rows kn) {k y : Int} (hk : k ∈ kn) : waitsP rows kn kn.length k y ↔ ∃ x, Path cl k x ∧ kn.getD x.toNat 0 = y ∧ y ≠ k := by
 obtain ⟨hkr, hks⟩ := h.kn_self hk
 constructor
 ·rintro ⟨i, hi, e, x, hx, h1, h2⟩
  have hir : inR n (i : Int) = true := inR_iff.mpr ⟨by omega, by have := h.len; omega⟩
  have hx2 : x ∈ rd_L6 rows (i : Int) := by unfold rd_L6; rw [Int.toNat_natCast]; exact hx
  have hp := (h.mem _ hir x).mp hx2
  refine ⟨x, ?_, h1, h2⟩
  have he : Eqv cl (i : Int) k := (h.eqv hir hkr).mp (by rw [Int.toNat_natCast, e, hks])
  exact he.symm.path hp
 ·rintro ⟨x, hp, h1, h2⟩
  obtain ⟨k0, k1⟩ := inR_iff.mp hkr
  refine ⟨k.toNat, by have := h.len; omega, hks, x, ?_, h1, h2⟩
  exact (h.mem k hkr x).mpr hp
theorem SG.waits_kn (h : SG cl n rows kn) {k y : Int} (hk : k ∈ kn) (hw : waitsP rows kn kn.length k y) : y ∈ kn ∧ Path cl k y ∧ ¬ Path cl y k := by
 obtain ⟨hkr, hks⟩ := h.kn_self hk
 obtain ⟨x, hp, rfl, hne⟩ := (h.waits hk).mp hw
 have hxr := h.inr _ _ hp
 obtain ⟨a1, a2, _⟩ := h.least hxr
 have hpy := a1.path' hp
 refine ⟨h.in_kn hxr, hpy, fun hb => hne ?_⟩
 have := (h.eqv a2 hkr).mpr (.inr ⟨hb, hpy⟩)
 rw [hks, (h.kn_self (h.in_kn hxr)).2] at this
 exact this
/-- Whom it comes to, and itself: how many. -/
noncomputable def far (cl : Int → List Int) (n : Nat) (k : Int) : Nat := ((rngI n).filter (fun x => @decide (x = k ∨ Path cl k x) (Classical.propDecidable _))).length
theorem far_lt {k y : Int} (hk : inR n k = true) (hp : Path cl k y) (hn : ¬ Path cl y k) (hne : y ≠ k) : far cl n y < far cl n k := by
 unfold far
 have h1 : ∀ z ∈ k :: (rngI n).filter (fun x => @decide (x = y ∨ Path cl y x) (Classical.propDecidable _)), z ∈ (rngI n).filter (fun x => @decide (x = k ∨ Path cl k x) (Classical.propDecidable _)) := fun z hz => by
  rw [List.mem_filter]
  rcases List.mem_cons.mp hz with e | hz
  ·subst e; exact ⟨rngI_mem.mpr hk, by simp⟩
  ·obtain ⟨q1, q2⟩ := List.mem_filter.mp hz
   refine ⟨q1, ?_⟩
   simp only [decide_eq_true_eq] at q2 ⊢
   rcases q2 with e | q2
   ·subst e; exact .inr hp
   ·exact .inr (hp.trans q2)
 have hnd : (rngI n).Nodup := by
  unfold rngI
  exact List.Pairwise.map _ (fun a b (hab : a ≠ b) => by omega) List.nodup_range
 have h2 := len_le_sub (List.nodup_cons.mpr ⟨fun hm => by
  obtain ⟨_, q2⟩ := List.mem_filter.mp hm
  simp only [decide_eq_true_eq] at q2
  rcases q2 with e | q2
  ·exact hne e.symm
  ·exact hn q2, hnd.filter _⟩) h1
 rw [List.length_cons] at h2
 exact h2
/-- While a knot is left one could be next. -/
theorem SG.free (h : SG cl n rows kn) (D : List Int) : ∀ (m : Nat) (k : Int), k ∈ kn → k ∉ D → far cl n k ≤ m → ∃ x, Free rows kn D x := by
 intro m
 induction m with
 | zero =>
  intro k hk hkD hf
  obtain ⟨hkr, _⟩ := h.kn_self hk
  by_cases hw : ∃ y, waitsP rows kn kn.length k y ∧ y ∉ D
  ·obtain ⟨y, hw, _⟩ := hw
   obtain ⟨_, p1, p2⟩ := h.waits_kn hk hw
   have := far_lt hkr p1 p2 (waits_ne hw)
   omega
  ·exact ⟨k, hk, hkD, fun y hy => Classical.byContradiction (fun hn => hw ⟨y, hy, hn⟩)⟩
 | succ m ih =>
  intro k hk hkD hf
  obtain ⟨hkr, _⟩ := h.kn_self hk
  by_cases hw : ∃ y, waitsP rows kn kn.length k y ∧ y ∉ D
  ·obtain ⟨y, hw, hyD⟩ := hw
   obtain ⟨hy, p1, p2⟩ := h.waits_kn hk hw
   have := far_lt hkr p1 p2 (waits_ne hw)
   exact ih y hy hyD (by omega)
  ·exact ⟨k, hk, hkD, fun y hy => Classical.byContradiction (fun hn => hw ⟨y, hy, hn⟩)⟩
theorem find_min {p : Int → Bool} {k : Int} : ∀ {r : List Int}, r.Pairwise (· < ·) → r.find? p = some k → ∀ y ∈ r, p y = true → k ≤ y
 | [], _, h, _, _, _ => by cases h
 | x :: r, hs, h, y, hy, hp => by
  obtain ⟨h1, h2⟩ := List.pairwise_cons.mp hs
  rw [List.find?_cons] at h
  cases hx : p x with
  | true =>
   rw [hx] at h
   simp only [Option.some.injEq] at h
   subst h
   rcases List.mem_cons.mp hy with e | e
   ·omega
   ·have := h1 y e; omega
  | false =>
   rw [hx] at h
   rcases List.mem_cons.mp hy with e | e
   ·rw [e, hx] at hp; cases hp
   ·exact find_min h2 h y e hp
/-- The knots, in order: each is the least one that could be next. -/
theorem SG.knots (h : SG cl n rows kn) : ∀ (m : Nat) (D : List Int), D.Nodup → (∀ d ∈ D, d ∈ kn) → m + D.length = n → ∃ E, knotsG rows kn m D = E.map (ofL kn) ∧ (D ++ E).Nodup ∧ (∀ x, x ∈ D ++ E ↔ x ∈ kn) ∧ ∀ pre k post, E = pre ++ k :: post → Free rows kn (D ++ pre) k ∧ ∀ x, Free rows kn (D ++ pre) x → k ≤ x := by
 intro m
 induction m with
 | zero =>
  intro D hnd hD hm
  refine ⟨[], rfl, by rw [List.append_nil]; exact hnd, fun x => ?_, fun pre k post e => by simp at e⟩
  rw [List.append_nil]
  refine ⟨hD x, fun hx => Classical.byContradiction (fun hn => ?_)⟩
  have hnd2 : (D ++ [x]).Nodup := List.nodup_append.mpr ⟨hnd, by simp, fun a ha c hc e => hn (by rw [List.mem_singleton] at hc; rw [← hc, ← e]; exact ha)⟩
  have := in_le hnd2 (fun y hy => (List.mem_append.mp hy).elim (fun q => (h.kn_self (hD y q)).1) (fun e => by rw [List.mem_singleton.mp e]; exact (h.kn_self hx).1))
  rw [List.length_append, List.length_singleton] at this
  omega
 | succ m ih =>
  intro D hnd hD hm
  unfold knotsG
  cases hc : cand rows kn D with
  | none =>
   have hno : ∀ x, ¬ Free rows kn D x := fun x hx => by
    unfold cand at hc
    have hxm := (upI_mem x kn).mpr hx.1
    exact (List.find?_eq_none.mp hc) x hxm ((free_iff hxm).mpr hx)
   refine ⟨[], rfl, by rw [List.append_nil]; exact hnd, fun x => ?_, fun pre k post e => by simp at e⟩
   rw [List.append_nil]
   refine ⟨hD x, fun hx => Classical.byContradiction (fun hn => ?_)⟩
   obtain ⟨z, hz⟩ := h.free D _ x hx hn (Nat.le_refl _)
   exact hno z hz
  | some k =>
   have hc2 := hc
   unfold cand at hc2
   have hkm := List.mem_of_find?_eq_some hc2
   have hkp := List.find?_some hc2
   have hkf : Free rows kn D k := (free_iff hkm).mp hkp
   have hmin : ∀ x, Free rows kn D x → k ≤ x := fun x hx => find_min (upI_up kn) hc2 x ((upI_mem x kn).mpr hx.1) ((free_iff ((upI_mem x kn).mpr hx.1)).mpr hx)
   obtain ⟨E, q1, q2, q3, q4⟩ := ih (D ++ [k]) (List.nodup_append.mpr ⟨hnd, by simp, fun a ha c hc e => hkf.2.1 (by rw [List.mem_singleton] at hc; rw [← hc, ← e]; exact ha)⟩) (fun d hd => (List.mem_append.mp hd).elim (hD d) (fun e => by rw [List.mem_singleton.mp e]; exact hkf.1)) (by rw [List.length_append, List.length_singleton]; omega)
   refine ⟨k :: E, by rw [List.map_cons, ← q1], by rw [List.append_assoc] at q2; exact q2, fun x => by rw [← q3 x, List.append_assoc]; rfl, fun pre k' post e => ?_⟩
   cases pre with
   | nil =>
    injection e with e1 e2
    subst e1
    rw [List.append_nil]
    exact ⟨hkf, hmin⟩
   | cons a pre =>
    injection e with e1 e2
    subst e1
    have := q4 pre k' post e2
    rw [List.append_assoc] at this
    exact this
end
def SmallF (f : S26) : Prop := f.f4.length ≤ 300 ∧ f.f5.length ≤ 30 ∧ ∀ b ∈ f.f5, b.f0.length ≤ 100
def Small (l2 : List S26) : Prop := l2.length ≤ 20 ∧ ∀ f ∈ l2, SmallF f
theorem listed_small : ∀ (bs : List S40), (∀ b ∈ bs, b.f0.length ≤ 100) → listedN bs ≤ bs.length * 100
 | [], _ => Nat.le_refl _
 | b :: bs, h => by
  have h1 := listed_small bs (fun x hx => h x (by simp [hx]))
  have h2 := h b (by simp)
  have h3 : listedN (b :: bs) = b.f0.length + listedN bs := by simp [listedN]
  rw [h3, List.length_cons, Nat.succ_mul]; omega
theorem small_ok {f : S26} (h : SmallF f) : okF f = true := by
 have h1 := listed_small f.f5 h.2.2
 have h2 := Nat.mul_le_mul_right 100 h.2.1
 unfold okF LIMS
 exact decide_eq_true (by omega)
section
variable {l0 : List S150} {l1 : List S152} {l2 : List S26}
theorem rd26_in {a : Int} (h : inR l2.length a = true) : rd_T26 l2 a ∈ l2 := by
 obtain ⟨h0, h1⟩ := inR_iff.mp h
 unfold rd_T26
 rw [getD_at _ _ (by omega)]
 exact List.getElem_mem _
def placesL (l2 : List S26) (a : Int) : List S38 := if inR l2.length a = true then (upI (rawL l2.length (rd_T26 l2 a).f4 (rd_T26 l2 a).f5)).map (pairAt (rd_T26 l2 a).f4) else []
def clF (l2 : List S26) (a : Int) : List Int := upI ((placesL l2 a).map (·.f1))
theorem places_some (hs : ∀ f ∈ l2, okF f = true) (a : Int) : scc_Places.f l0 l1 l2 a = some (placesL l2 a) := by
 unfold scc_Places.f placesL
 split
 ·rename_i h
  rw [if_pos (hs _ (rd26_in h))]
 ·rfl
theorem calls_some (hs : ∀ f ∈ l2, okF f = true) : scc_Calls.f l0 l1 l2 = fun a => some (clF l2 a) := by
 funext a
 unfold scc_Calls.f
 rw [places_some hs]; rfl
theorem clF_in (hs : ∀ f ∈ l2, okF f = true) (x : Int) : ∀ y ∈ clF l2 x, inR l2.length y = true := by
 have h : scc_Calls.f [] [] l2 x = some (clF l2 x) := by rw [calls_some hs]
 exact calls_in h
theorem up_nodup {l : List Int} (h : l.Pairwise (· < ·)) : l.Nodup := h.imp (fun h e => by omega)
theorem clF_len (hs : ∀ f ∈ l2, okF f = true) (x : Int) : (clF l2 x).length ≤ l2.length := in_le (up_nodup (upI_up _)) (clF_in hs x)
theorem comes_some (hs : ∀ f ∈ l2, okF f = true) (hn : l2.length ≤ 30) (a : Int) : ∃ r, scc_Comes.f l0 l1 l2 a = some r ∧ r.Pairwise (· < ·) ∧ ∀ y, y ∈ r ↔ Path (clF l2) a y := by
 obtain ⟨r, h1, _, _, h4⟩ := comes_path (cl := clF l2) (n := l2.length) (clF_in hs) (clF_len hs) hn a
 refine ⟨upI r, ?_, upI_up r, fun y => by rw [upI_mem, h4]⟩
 unfold scc_Comes.f
 rw [calls_some hs, Option.bind_some, h1]; rfl
theorem rowsTo_some {nx : Int → Option (List Int)} (h : ∀ a, ∃ r, nx a = some r) : ∀ n, ∃ r, rowsTo nx n = some r
 | 0 => ⟨[], rfl⟩
 | n + 1 => by
  obtain ⟨r, h1⟩ := rowsTo_some h n
  obtain ⟨x, h2⟩ := h n
  exact ⟨r ++ [x], by unfold rowsTo; rw [h1, Option.bind_some, h2]; rfl⟩
theorem path_in (hs : ∀ f ∈ l2, okF f = true) {x y : Int} (h : Path (clF l2) x y) : inR l2.length y = true := by
 cases h with
 | one h => exact clF_in hs _ _ h
 | step _ h => exact clF_in hs _ _ h
theorem sg_of (hs : ∀ f ∈ l2, okF f = true) (hn : l2.length ≤ 30) : ∃ rows, rowsTo (scc_Comes.f l0 l1 l2) l2.length = some rows ∧ SG (clF l2) l2.length rows (knP rows l2.length) := by
 obtain ⟨rows, hr⟩ := rowsTo_some (nx := scc_Comes.f l0 l1 l2) (fun a => by obtain ⟨r, h, _⟩ := comes_some (l0 := l0) (l1 := l1) hs hn a; exact ⟨r, h⟩) l2.length
 refine ⟨rows, hr, rowsTo_len hr, rfl, fun i hi y => ?_, fun x y h => path_in hs h⟩
 obtain ⟨h0, h1⟩ := inR_iff.mp hi
 have h2 := rowsTo_at hr (i := i.toNat) (by omega)
 obtain ⟨r, h3, _, h4⟩ := comes_some (l0 := l0) (l1 := l1) hs hn ((i.toNat : Nat) : Int)
 rw [h3] at h2
 have h5 : rd_L6 rows i = r := (Option.some.inj h2).symm
 rw [h5, h4, show ((i.toNat : Nat) : Int) = i by omega]
theorem knots_some (hs : ∀ f ∈ l2, okF f = true) (hn : l2.length ≤ 30) : ∃ rows kn E, SG (clF l2) l2.length rows kn ∧ scc_Knots.f l0 l1 l2 = some (E.map (ofL kn)) ∧ E.Nodup ∧ (∀ x, x ∈ E ↔ x ∈ kn) ∧ ∀ pre k post, E = pre ++ k :: post → Free rows kn pre k ∧ ∀ x, Free rows kn pre x → k ≤ x := by
 obtain ⟨rows, hr, hg⟩ := sg_of (l0 := l0) (l1 := l1) hs hn
 obtain ⟨E, h1, h2, h3, h4⟩ := hg.knots l2.length [] List.nodup_nil (fun d hd => (nomatch hd)) (Nat.add_zero _)
 refine ⟨rows, _, E, hg, ?_, by rw [List.nil_append] at h2; exact h2, fun x => by rw [← h3 x, List.nil_append], fun pre k post e => ?_⟩
 ·unfold scc_Knots.f
  rw [if_pos (by omega), hr, ← h1]; rfl
 ·have := h4 pre k post e
  rw [List.nil_append] at this
  exact this
end
theorem ofL_mem {kn : List Int} {k x : Int} : x ∈ ofL kn k ↔ inR kn.length x = true ∧ kn.getD x.toNat 0 = k := by
 unfold ofL
 rw [asc_mem, inR_iff, decide_eq_true_eq, and_assoc]
theorem wrap_upS {i : Nat} {n : Nat} (h : i < n) (hn : n ≤ 140737488351232) : wrap64 ((i : Int) + 1) = ((i + 1 : Nat) : Int) := by unfold wrap64; omega
theorem awake_true : Ev (fun k => truantlaw20_awake.f k) true := by
 have h : truantlaw20_awake.f 40 = some true := by kernel_rfl
 exact Ev.of (fun k => truantlaw20_awake.mono k) h
section
variable (l0 : List S150) (l1 : List S152) (l : List S26)
theorem great_ev (hw : ∀ f ∈ l, f.f5.length ≤ 140737488351232) : ∃ b, Ev (fun k => truantlaw20_great.f k l0 l1 l) b ∧ (b = false → Small l) := by
 unfold truantlaw20_great.f
 by_cases h1 : (l.length : Int) > 20
 ·exact ⟨true, Ev.pos h1 (Ev.now _), fun h => by cases h⟩
 ·have key : ∀ (d i : Nat), l.length - i = d → i ≤ l.length → ∃ b, Ev (fun k => truantlaw20_great.l0 k (i : Int) l0 l1 l) b ∧ (b = false → ∀ j, i ≤ j → j < l.length → SmallF (rd_T26 l (j : Int))) := by
   intro d
   induction d with
   | zero => intro i hd hi; exact ⟨false, Ev.step (fun k => rfl) (Ev.neg (by omega) (Ev.now _)), fun _ j h0 hj => by omega⟩
   | succ d ih =>
    intro i hd hi
    have hlt : i < l.length := by omega
    obtain ⟨b, hb, hb2⟩ := ih (i + 1) (by omega) (by omega)
    obtain ⟨f, hf⟩ : ∃ f, f = rd_T26 l (i : Int) := ⟨_, rfl⟩
    have hfw : f.f5.length ≤ 140737488351232 := hw f (by rw [hf]; exact rd26_in (inR_iff.mpr ⟨by omega, by omega⟩))
    by_cases g1 : ((rd_T26 l (i : Int)).f4.length : Int) > 300
    ·exact ⟨true, Ev.step (fun k => rfl) (Ev.pos (by omega) (Ev.pos (by omega) (Ev.pos g1 (Ev.step (fun k => rfl) (Ev.now _))))), fun h => by cases h⟩
    ·by_cases g2 : ((rd_T26 l (i : Int)).f5.length : Int) > 30
     ·refine ⟨true, Ev.step (fun k => rfl) (Ev.pos (by omega) (Ev.pos (by omega) (Ev.neg g1 ?_))), fun h => by cases h⟩
      rw [decide_eq_true g2]
      exact Ev.step (fun k => rfl) (Ev.now _)
     ·have inner : ∀ (e j : Nat), f.f5.length - j = e → j ≤ f.f5.length → ∃ b, Ev (fun k => truantlaw20_great.l1 k (i : Int) (j : Int) l0 l1 l f.f0 f.f1 f.f2 f.f3 f.f4 f.f5) b ∧ (b = false → (∀ m, j ≤ m → m < f.f5.length → (rd_T40 f.f5 (m : Int)).f0.length ≤ 100) ∧ ∀ q, i + 1 ≤ q → q < l.length → SmallF (rd_T26 l (q : Int))) := by
       intro e
       induction e with
       | zero =>
        intro j he hj
        refine ⟨b, Ev.step (fun k => rfl) (Ev.neg (by omega) ?_), fun h => ⟨fun m h0 hm => by omega, hb2 h⟩⟩
        rw [wrap_upS hlt (by omega)]
        exact hb
       | succ e ihe =>
        intro j he hj
        have hjl : j < f.f5.length := by omega
        obtain ⟨b', hb', hb3⟩ := ihe (j + 1) (by omega) (by omega)
        by_cases g3 : ((rd_T40 f.f5 (j : Int)).f0.length : Int) > 100
        ·exact ⟨true, Ev.step (fun k => rfl) (Ev.pos (by omega) (Ev.pos (by omega) (Ev.pos g3 (Ev.now _)))), fun h => by cases h⟩
        ·refine ⟨b', Ev.step (fun k => rfl) (Ev.pos (by omega) (Ev.pos (by omega) (Ev.neg g3 ?_))), fun h => ⟨fun m h0 hm => ?_, (hb3 h).2⟩⟩
         ·rw [wrap_upS hjl hfw]
          exact hb'
         ·by_cases em : m = j
          ·subst em; omega
          ·exact (hb3 h).1 m (by omega) hm
      obtain ⟨b', hb', hb3⟩ := inner _ 0 rfl (Nat.zero_le _)
      refine ⟨b', Ev.step (fun k => rfl) (Ev.pos (by omega) (Ev.pos (by omega) (Ev.neg g1 ?_))), fun h j h0 hj => ?_⟩
      ·rw [decide_eq_false g2]
       rw [hf] at hb'
       exact Ev.step (fun k => rfl) hb'
      ·by_cases ej : j = i
       ·subst ej
        refine ⟨by omega, by omega, fun b hbm => ?_⟩
        obtain ⟨m, hm, rfl⟩ := List.mem_iff_getElem.mp hbm
        have := (hb3 h).1 m (Nat.zero_le _) (by rw [hf]; exact hm)
        rw [hf] at this
        have e2 : rd_T40 (rd_T26 l (j : Int)).f5 (m : Int) = (rd_T26 l (j : Int)).f5[m] := by unfold rd_T40; rw [Int.toNat_natCast, getD_at _ _ hm]
        rw [e2] at this
        exact this
       ·exact (hb3 h).2 j (by omega) hj
  obtain ⟨b, hb, hb2⟩ := key _ 0 rfl (Nat.zero_le _)
  refine ⟨b, Ev.neg h1 hb, fun h => ⟨by omega, fun f hf => ?_⟩⟩
  obtain ⟨j, hj, rfl⟩ := List.mem_iff_getElem.mp hf
  have := hb2 h j (Nat.zero_le _) hj
  have e2 : rd_T26 l (j : Int) = l[j] := by unfold rd_T26; rw [Int.toNat_natCast, getD_at _ _ hj]
  rw [e2] at this
  exact this
end
theorem has_ev (l : List Int) (x : Int) (hl : l.length ≤ 140737488351232) : Ev (fun k => truantlaw20_has.f k l x) (l.contains x) := by
 unfold truantlaw20_has.f
 have key : ∀ (d i : Nat), l.length - i = d → i ≤ l.length → Ev (fun k => truantlaw20_has.l0 k l x (i : Int)) ((l.drop i).contains x) := by
  intro d
  induction d with
  | zero => intro i hd hi; rw [List.drop_of_length_le (by omega)]; exact Ev.step (fun k => rfl) (Ev.neg (by omega) (Ev.now _))
  | succ d ih =>
   intro i hd hi
   have hlt : i < l.length := by omega
   have hrd : rd l (i : Int) = l[i] := by unfold rd; rw [Int.toNat_natCast, getD_at _ _ hlt]
   rw [List.drop_eq_getElem_cons hlt]
   refine Ev.step (fun k => rfl) (Ev.pos (by omega) (Ev.pos (by omega) ?_))
   by_cases e : rd l (i : Int) = x
   ·refine Ev.pos e (Ev.eq (Ev.now _) ?_)
    rw [← e, hrd, List.contains_cons, beq_self_eq_true, Bool.true_or]
   ·refine Ev.neg e ?_
    rw [wrap_upS hlt hl]
    refine Ev.eq (ih (i + 1) (by omega) (by omega)) ?_
    rw [hrd] at e
    rw [List.contains_cons, beq_eq_false_iff_ne.mpr (fun q => e q.symm), Bool.false_or]
 exact key _ 0 rfl (Nat.zero_le _)
theorem isLoop_ev {l0 : List S150} {l1 : List S152} {l2 : List S26} (hs : ∀ f ∈ l2, okF f = true) (hn : l2.length ≤ 30) (a : Int) : ∃ b, Ev (fun k => scc_IsLoop.f k l0 l1 l2 a) b ∧ (b = true ↔ Path (clF l2) a a) := by
 obtain ⟨r, h1, h2, h3⟩ := comes_some (l0 := l0) (l1 := l1) hs hn a
 have hlen : r.length ≤ l2.length := in_le (up_nodup h2) (fun x hx => path_in hs ((h3 x).mp hx))
 refine ⟨r.contains a, Ev.of (fun k => scc_IsLoop.mono _ _ _ _ k) (k := r.length + 1) ?_, by rw [List.contains_iff_mem, h3]⟩
 unfold scc_IsLoop.f
 rw [h1, Option.bind_some, contains_is r a (by omega)]; rfl
/-- The knots of a program, in order. -/
structure KO (cl : Int → List Int) (n : Nat) (rows : List (List Int)) (kn E : List Int) : Prop where
 g : SG cl n rows kn
 nd : E.Nodup
 mem : ∀ x, x ∈ E ↔ x ∈ kn
 ord : ∀ pre k post, E = pre ++ k :: post → Free rows kn pre k ∧ ∀ x, Free rows kn pre x → k ≤ x
def idx (kn E : List Int) (f : Int) : Nat := E.idxOf (kn.getD f.toNat 0)
section
variable {cl : Int → List Int} {n : Nat} {rows : List (List Int)} {kn E : List Int}
theorem KO.idx_lt (h : KO cl n rows kn E) {f : Int} (hf : inR n f = true) : idx kn E f < E.length := List.idxOf_lt_length_of_mem ((h.mem _).mpr (h.g.in_kn hf))
theorem KO.at_idx (h : KO cl n rows kn E) {f : Int} (hf : inR n f = true) : E[idx kn E f]'(h.idx_lt hf) = kn.getD f.toNat 0 := List.getElem_idxOf (h.idx_lt hf)
theorem KO.idx_iff (h : KO cl n rows kn E) {f : Int} (hf : inR n f = true) {i : Nat} (hi : i < E.length) : idx kn E f = i ↔ kn.getD f.toNat 0 = E[i] := by
 have h1 := h.at_idx hf
 constructor
 ·intro e; subst e; exact h1.symm
 ·intro e
  rw [e] at h1
  exact (List.getElem_inj h.nd).mp h1
theorem KO.in_row (h : KO cl n rows kn E) {f : Int} {i : Nat} (hi : i < E.length) : f ∈ ofL kn E[i] ↔ inR n f = true ∧ idx kn E f = i := by
 rw [ofL_mem, h.g.len]
 constructor
 ·rintro ⟨h1, h2⟩; exact ⟨h1, (h.idx_iff h1 hi).mpr h2⟩
 ·rintro ⟨h1, h2⟩; exact ⟨h1, (h.idx_iff h1 hi).mp h2⟩
theorem KO.same (h : KO cl n rows kn E) {f g : Int} (hf : inR n f = true) (hg : inR n g = true) : idx kn E f = idx kn E g ↔ Eqv cl f g := by
 rw [← h.g.eqv hf hg, h.idx_iff hf (h.idx_lt hg), h.at_idx hg]
/-- Whoever is come to stands no later. -/
theorem KO.le (h : KO cl n rows kn E) {f g : Int} (hf : inR n f = true) (hp : Path cl f g) : idx kn E g ≤ idx kn E f := by
 have hg := h.g.inr _ _ hp
 by_cases e : kn.getD g.toNat 0 = kn.getD f.toNat 0
 ·unfold idx; rw [e]; exact Nat.le_refl _
 ·have hlt := h.idx_lt hf
  have hs : E = E.take (idx kn E f) ++ kn.getD f.toNat 0 :: E.drop (idx kn E f + 1) := by
   conv => lhs; rw [← List.take_append_drop (idx kn E f) E, List.drop_eq_getElem_cons hlt, h.at_idx hf]
  obtain ⟨⟨_, _, hw⟩, _⟩ := h.ord _ _ _ hs
  have hfk := h.g.in_kn hf
  obtain ⟨hkr, hks⟩ := h.g.kn_self hfk
  have he : Eqv cl f (kn.getD f.toNat 0) := (h.g.eqv hf hkr).mp hks.symm
  have := hw _ ((h.g.waits hfk).mpr ⟨g, he.symm.path hp, rfl, e⟩)
  obtain ⟨i, hi, e2⟩ := List.mem_iff_getElem.mp this
  rw [List.length_take] at hi
  rw [List.getElem_take] at e2
  have h3 : idx kn E g = i := (h.idx_iff hg (by omega)).mpr e2.symm
  omega
theorem KO.up (h : KO cl n rows kn E) (k : Int) : (ofL kn k).Pairwise (· < ·) := asc_up _ _
def cnt (kn E : List Int) (i : Nat) : Nat := ((E.take i).map (fun k => (ofL kn k).length)).sum
theorem cnt_succ {i : Nat} (hi : i < E.length) : cnt kn E (i + 1) = cnt kn E i + (ofL kn E[i]).length := by
 unfold cnt
 rw [List.take_succ_eq_append_getElem hi, List.map_append, List.sum_append]; simp
theorem cnt_le {i : Nat} : ∀ {j : Nat}, i ≤ j → cnt kn E i ≤ cnt kn E j
 | 0, h => by rw [show i = 0 by omega]; exact Nat.le_refl _
 | j + 1, h => by
  by_cases e : i = j + 1
  ·rw [e]; exact Nat.le_refl _
  ·have := cnt_le (j := j) (i := i) (by omega)
   by_cases hj : j < E.length
   ·rw [cnt_succ hj]; omega
   ·have : cnt kn E (j + 1) = cnt kn E j := by unfold cnt; rw [List.take_of_length_le (by omega), List.take_of_length_le (by omega)]
    omega
/-- Each function is in one knot. -/
theorem KO.total (h : KO cl n rows kn E) : cnt kn E E.length = n := by
 have e : cnt kn E E.length = ((E.map (ofL kn)).flatten).length := by
  unfold cnt
  rw [List.take_length, List.length_flatten, List.map_map]; rfl
 have hm : ∀ x, x ∈ (E.map (ofL kn)).flatten ↔ inR n x = true := fun x => by
  rw [List.mem_flatten]
  constructor
  ·rintro ⟨l, hl, hx⟩
   obtain ⟨k, _, rfl⟩ := List.mem_map.mp hl
   have := (ofL_mem.mp hx).1
   rwa [h.g.len] at this
  ·intro hx
   exact ⟨_, List.mem_map.mpr ⟨_, (h.mem _).mpr (h.g.in_kn hx), rfl⟩, ofL_mem.mpr ⟨by rw [h.g.len]; exact hx, rfl⟩⟩
 have hnd : ((E.map (ofL kn)).flatten).Nodup := by
  unfold List.Nodup
  rw [List.pairwise_flatten]
  refine ⟨fun l hl => ?_, ?_⟩
  ·obtain ⟨k, _, rfl⟩ := List.mem_map.mp hl
   exact up_nodup (asc_up _ _)
  ·rw [List.pairwise_map]
   refine h.nd.imp (fun {a b} hab x hx y hy e => hab ?_)
   rw [← (ofL_mem.mp hx).2, e, (ofL_mem.mp hy).2]
 have hr : (rngI n).Nodup := by
  unfold rngI
  exact List.Pairwise.map _ (fun a b (hab : a ≠ b) => by omega) List.nodup_range
 have h1 := in_le hnd (fun x hx => (hm x).mp hx)
 have h2 := len_le_sub hr (fun x hx => (hm x).mpr (rngI_mem.mp hx))
 rw [rngI_len] at h2
 rw [e]; omega
end
/-- What the table says once the rows ahead of the i-th, and D of the i-th, are read. -/
def Told (kn E : List Int) (n : Nat) (A : List Int) (i : Nat) (D : List Int) : Prop := A.length = n ∧ ∀ f : Int, inR n f = true → rd A f = if idx kn E f < i ∨ f ∈ D then (idx kn E f : Int) + 1 else 0
theorem rd_set {A : List Int} {f g v : Int} (hf : inR A.length f = true) (hg : inR A.length g = true) : rd (A.set f.toNat v) g = if g = f then v else rd A g := by
 obtain ⟨h0, h1⟩ := inR_iff.mp hf
 obtain ⟨g0, g1⟩ := inR_iff.mp hg
 unfold rd
 by_cases e : g = f
 ·subst e
  rw [if_pos rfl, List.getD, List.getElem?_set_self (by omega)]; rfl
 ·rw [if_neg e, List.getD, List.getElem?_set_ne (by omega)]; rfl
theorem if_iff {p q : Prop} [Decidable p] [Decidable q] {a b : Int} (h : p ↔ q) : (if p then a else b) = if q then a else b := by
 by_cases e : p
 ·rw [if_pos e, if_pos (h.mp e)]
 ·rw [if_neg e, if_neg (fun k => e (h.mpr k))]
theorem rd_nat {l : List Int} {j : Nat} (h : j < l.length) : rd l (j : Int) = l[j] := by unfold rd; rw [Int.toNat_natCast, getD_at _ _ h]
theorem wrap_cnt {c j m n : Nat} (h : c + m ≤ n) (hj : j < m) (hn : n ≤ 20) : wrap64 (((c + j : Nat) : Int) + 1) = ((c + (j + 1) : Nat) : Int) := by unfold wrap64; omega
theorem wrap_row {c j m n : Nat} (h : c + m ≤ n) (hj : j < m) (hn : n ≤ 20) : wrap64 ((j : Int) + 1) = ((j + 1 : Nat) : Int) := by unfold wrap64; omega
section
variable {n : Nat} {rows : List (List Int)} {kn E : List Int} {l0 : List S150} {l1 : List S152} {l2 : List S26}
theorem loop_two (hs : ∀ f ∈ l2, okF f = true) (hn : l2.length ≤ 20) (h : KO (clF l2) l2.length rows kn E) {i : Nat} (hi : i < E.length) {f : Int} (hf : f ∈ ofL kn E[i]) (h2 : 1 < (ofL kn E[i]).length) : Ev (fun k => scc_IsLoop.f k l0 l1 l2 f) true := by
 obtain ⟨b, hb, hbp⟩ := isLoop_ev (l0 := l0) (l1 := l1) hs (by omega) f
 have : b = true := hbp.mpr (by
  have hg : ∃ g ∈ ofL kn E[i], g ≠ f := by
   have hnd := up_nodup (h.up E[i])
   obtain ⟨R, hR⟩ : ∃ R, R = ofL kn E[i] := ⟨_, rfl⟩
   rw [← hR] at h2 hnd hf ⊢
   by_cases e : R[0] = f
   ·refine ⟨R[1], List.getElem_mem _, fun e2 => ?_⟩
    have := (List.getElem_inj (h₀ := by omega) (h₁ := by omega) hnd).mp (e.trans e2.symm)
    omega
   ·exact ⟨R[0], List.getElem_mem _, e⟩
  obtain ⟨g, hg, hne⟩ := hg
  obtain ⟨f1, f2⟩ := (h.in_row hi).mp hf
  obtain ⟨g1, g2⟩ := (h.in_row hi).mp hg
  rcases (h.same f1 g1).mp (by rw [f2, g2]) with e | ⟨p, q⟩
  ·exact absurd e.symm hne
  ·exact p.trans q)
 rw [this] at hb
 exact hb
theorem tail_ev (hs : ∀ f ∈ l2, okF f = true) (hn : l2.length ≤ 20) (h : KO (clF l2) l2.length rows kn E) {i : Nat} (hi : i < E.length) {f : Int} (hf : f ∈ ofL kn E[i]) {g : Nat → Option Bool} (hg : Ev g true) : Ev (fun k => if ((ofL kn E[i]).length : Int) > 1 then ((scc_IsLoop.f k l0 l1 l2 f).bind fun t => (if t = true then g k else none)) else g k) true := by
 by_cases e : ((ofL kn E[i]).length : Int) > 1
 ·refine Ev.pos e ?_
  refine Ev.bind (loop_two hs hn h hi hf (by omega)) ?_
  refine Ev.pos rfl ?_
  exact hg
 ·refine Ev.neg e ?_
  exact hg
theorem lists_ev (hs : ∀ f ∈ l2, okF f = true) (hn : l2.length ≤ 20) (h : KO (clF l2) l2.length rows kn E) (hend : ∀ A, Told kn E l2.length A E.length [] → Ev (fun k => truantlaw20_SccOrder.l2 k A 0 l0 l1 l2) true) : ∀ (d i : Nat), E.length - i = d → i ≤ E.length → ∀ A, Told kn E l2.length A i [] → Ev (fun k => truantlaw20_SccOrder.l0 k A (E.map (ofL kn)) (cnt kn E i : Int) (i : Int) l0 l1 l2) true := by
 have hEl : E.length ≤ l2.length := in_le h.nd (fun x hx => (h.g.kn_self ((h.mem x).mp hx)).1)
 intro d
 induction d with
 | zero =>
  intro i hd hi A hA
  have e : i = E.length := by omega
  subst e
  refine Ev.step (fun k => rfl) (Ev.neg (by rw [List.length_map]; omega) (Ev.pos (by rw [h.total]) ?_))
  exact hend A hA
 | succ d ih =>
  intro i hd hi A hA
  have hlt : i < E.length := by omega
  refine Ev.step (fun k => rfl) (Ev.pos (by rw [List.length_map]; omega) ?_)
  have hR : rd_L6 (E.map (ofL kn)) (i : Int) = ofL kn E[i] := by unfold rd_L6; rw [Int.toNat_natCast, getD_at _ _ (by rw [List.length_map]; exact hlt), List.getElem_map]
  have hup := h.up E[i]
  have hnd := up_nodup hup
  have hrow : ∀ f, f ∈ ofL kn E[i] ↔ inR l2.length f = true ∧ idx kn E f = i := fun f => h.in_row hlt
  have htot : cnt kn E (i + 1) ≤ l2.length := by rw [← h.total]; exact cnt_le (by omega)
  rw [cnt_succ hlt] at htot
  have inner : ∀ (e j : Nat), (ofL kn E[i]).length - j = e → j ≤ (ofL kn E[i]).length → ∀ A, Told kn E l2.length A i ((ofL kn E[i]).take j) → Ev (fun k => truantlaw20_SccOrder.l1 k A (E.map (ofL kn)) ((cnt kn E i + j : Nat) : Int) (i : Int) (j : Int) l0 l1 l2) true := by
   intro e
   induction e with
   | zero =>
    intro j he hj A hA
    refine Ev.step (fun k => rfl) (Ev.pos (by omega) (Ev.pos (by rw [List.length_map]; omega) (Ev.neg (by rw [hR]; omega) ?_)))
    rw [wrap_upS hlt (by omega)]
    have ej : j = (ofL kn E[i]).length := by omega
    rw [ej, ← cnt_succ hlt]
    refine ih (i + 1) (by omega) (by omega) A ⟨hA.1, fun f hf => ?_⟩
    rw [hA.2 f hf]
    refine if_iff ?_
    rw [List.take_of_length_le (by omega), hrow]
    constructor
    ·rintro (q | ⟨_, q⟩)
     ·exact .inl (by omega)
     ·exact .inl (by omega)
    ·rintro (q | q)
     ·by_cases e : idx kn E f = i
      ·exact .inr ⟨hf, e⟩
      ·exact .inl (by omega)
     ·cases q
   | succ e ihe =>
    intro j he hj A hA
    have hjl : j < (ofL kn E[i]).length := by omega
    have hrd : rd (rd_L6 (E.map (ofL kn)) (i : Int)) (j : Int) = (ofL kn E[i])[j] := by rw [hR, rd_nat hjl]
    obtain ⟨f, hf⟩ : ∃ f, f = (ofL kn E[i])[j] := ⟨_, rfl⟩
    have hfm : f ∈ ofL kn E[i] := by rw [hf]; exact List.getElem_mem _
    obtain ⟨f1, f2⟩ := (hrow f).mp hfm
    obtain ⟨n0, n1⟩ := inR_iff.mp f1
    have hft : f ∉ (ofL kn E[i]).take j := fun q => by
     obtain ⟨m, hm, e2⟩ := List.mem_iff_getElem.mp q
     rw [List.length_take] at hm
     rw [List.getElem_take, hf] at e2
     have := (List.getElem_inj (h₀ := by omega) (h₁ := by omega) hnd).mp e2
     omega
    have hA0 : rd A f = 0 := by
     rw [hA.2 f f1, if_neg]
     rintro (q | q)
     ·omega
     ·exact hft q
    have hA2 : Told kn E l2.length (A.set f.toNat (wrap64 ((i : Int) + 1))) i ((ofL kn E[i]).take (j + 1)) := by
     refine ⟨by rw [List.length_set]; exact hA.1, fun g hg => ?_⟩
     rw [rd_set (by rw [hA.1]; exact f1) (by rw [hA.1]; exact hg), wrap_upS hlt (by omega), List.take_succ_eq_append_getElem hjl, ← hf]
     by_cases eg : g = f
     ·subst eg
      rw [if_pos rfl, if_pos (.inr (by simp)), f2]; omega
     ·rw [if_neg eg, hA.2 g hg]
      refine if_iff ?_
      rw [List.mem_append, List.mem_singleton]
      constructor
      ·rintro (q | q)
       ·exact .inl q
       ·exact .inr (.inl q)
      ·rintro (q | q | q)
       ·exact .inl q
       ·exact .inr q
       ·exact absurd q eg
    have hnext : Ev (fun k => truantlaw20_SccOrder.l1 k (A.set f.toNat (wrap64 ((i : Int) + 1))) (E.map (ofL kn)) (wrap64 (((cnt kn E i + j : Nat) : Int) + 1)) (i : Int) (wrap64 ((j : Int) + 1)) l0 l1 l2) true := by
     rw [wrap_cnt htot hjl hn, wrap_row htot hjl hn]
     exact ihe (j + 1) (by omega) (by omega) _ hA2
    have htail := tail_ev (l0 := l0) (l1 := l1) hs hn h hlt hfm hnext
    refine Ev.step (fun k => rfl) ?_
    refine Ev.pos (by omega) ?_
    refine Ev.pos (by rw [List.length_map]; omega) ?_
    rw [hrd, hR, ← hf]
    refine Ev.pos (by omega) ?_
    refine Ev.pos (by omega) ?_
    refine Ev.neg (by omega) ?_
    refine Ev.neg (by rw [hA.1]; omega) ?_
    refine Ev.pos n0 ?_
    refine Ev.pos (by rw [hA.1]; exact n1) ?_
    refine Ev.pos hA0 ?_
    by_cases hj0 : (j : Int) > 0
    ·have hw : wrap64 ((j : Int) - 1) = ((j - 1 : Nat) : Int) := by unfold wrap64; omega
     rw [hw]
     refine Ev.pos hj0 ?_
     refine Ev.pos (by omega) ?_
     refine Ev.pos (by omega) ?_
     refine Ev.neg ?_ ?_
     rotate_left
     ·exact htail
     rw [rd_nat (by omega), hf]
     have := List.pairwise_iff_getElem.mp hup (j - 1) j (by omega) hjl (by omega)
     omega
    ·refine Ev.neg hj0 ?_
     exact htail
  exact inner _ 0 rfl (Nat.zero_le _) A (by rw [List.take_zero]; exact hA)
theorem asks_ev (hs : ∀ f ∈ l2, okF f = true) (hn : l2.length ≤ 20) (h : KO (clF l2) l2.length rows kn E) (A : List Int) (hA : A.length = l2.length) (hA2 : ∀ f : Int, inR l2.length f = true → rd A f = (idx kn E f : Int) + 1) : ∀ (d i : Nat), l2.length - i = d → i ≤ l2.length → Ev (fun k => truantlaw20_SccOrder.l2 k A (i : Int) l0 l1 l2) true := by
 intro d
 induction d with
 | zero => intro i hd hi; exact Ev.step (fun k => rfl) (Ev.neg (by omega) (Ev.now _))
 | succ d ih =>
  intro i hd hi
  have hlt : i < l2.length := by omega
  have hir : inR l2.length (i : Int) = true := inR_iff.mpr ⟨by omega, by omega⟩
  obtain ⟨r, hr, hru, hrp⟩ := comes_some (l0 := l0) (l1 := l1) hs (by omega) (i : Int)
  have hrl : r.length ≤ l2.length := in_le (up_nodup hru) (fun x hx => path_in hs ((hrp x).mp hx))
  have hcl := clF_len hs (i : Int)
  have hci := clF_in hs (i : Int)
  have step4 : ∀ (e m : Nat), r.length - m = e → m ≤ r.length → Ev (fun k => truantlaw20_SccOrder.l4 k A (i : Int) r (m : Int) l0 l1 l2) true := by
   intro e
   induction e with
   | zero =>
    intro m he hm
    refine Ev.step (fun k => rfl) (Ev.neg (by omega) ?_)
    rw [wrap_upS hlt (by omega)]
    exact ih (i + 1) (by omega) (by omega)
   | succ e ihe =>
    intro m he hm
    have hml : m < r.length := by omega
    have hrd : rd r (m : Int) = r[m] := rd_nat hml
    obtain ⟨g, hg⟩ : ∃ g, g = r[m] := ⟨_, rfl⟩
    have hgp : Path (clF l2) (i : Int) g := (hrp g).mp (by rw [hg]; exact List.getElem_mem _)
    have hgr := path_in hs hgp
    obtain ⟨g0, g1⟩ := inR_iff.mp hgr
    obtain ⟨s, hsc, hsu, hsp⟩ := comes_some (l0 := l0) (l1 := l1) hs (by omega) g
    have hsl : s.length ≤ l2.length := in_le (up_nodup hsu) (fun x hx => path_in hs ((hsp x).mp hx))
    refine Ev.step (fun k => rfl) (Ev.pos (by omega) (Ev.pos (by omega) ?_))
    rw [hrd, ← hg]
    refine Ev.one hsc ?_
    have step5 : ∀ (e' q : Nat), s.length - q = e' → q ≤ s.length → Ev (fun k => truantlaw20_SccOrder.l5 k A (i : Int) r (m : Int) s (q : Int) l0 l1 l2) true := by
     intro e'
     induction e' with
     | zero =>
      intro q hq1 hq2
      refine Ev.step (fun k => rfl) (Ev.neg (by omega) (Ev.pos (by omega) (Ev.pos (by omega) ?_)))
      rw [hrd, ← hg]
      refine Ev.pos g0 (Ev.pos (by rw [hA]; exact g1) (Ev.pos (by omega) (Ev.pos (by omega) (Ev.bind (has_ev s (i : Int) (by omega)) (Ev.neg ?_ ?_)))))
      ·rw [hA2 g hgr, hA2 _ hir]
       have e1 : s.contains (i : Int) = ((idx kn E g : Int) + 1 == (idx kn E (i : Int) : Int) + 1) := by
        rw [Bool.eq_iff_iff, List.contains_iff_mem, hsp, beq_iff_eq]
        constructor
        ·intro hp
         have := (h.same hgr hir).mpr (.inr ⟨hp, hgp⟩)
         omega
        ·intro e
         rcases (h.same hgr hir).mp (by omega) with e | ⟨p, _⟩
         ·rw [e] at hgp ⊢; exact hgp
         ·exact p
       rw [e1]; simp
      ·rw [wrap_upS hml (by omega)]
       exact ihe (m + 1) (by omega) (by omega)
     | succ e' ihq =>
      intro q hq1 hq2
      have hql : q < s.length := by omega
      refine Ev.step (fun k => rfl) (Ev.pos (by omega) (Ev.pos (by omega) ?_))
      rw [rd_nat hql]
      refine Ev.bind (has_ev r s[q] (by omega)) (Ev.pos ?_ ?_)
      ·rw [List.contains_iff_mem, hrp]
       exact hgp.trans ((hsp _).mp (List.getElem_mem _))
      ·rw [wrap_upS hql (by omega)]
       exact ihq (q + 1) (by omega) (by omega)
    exact step5 _ 0 rfl (Nat.zero_le _)
  have step3 : ∀ (e m : Nat), (clF l2 (i : Int)).length - m = e → m ≤ (clF l2 (i : Int)).length → Ev (fun k => truantlaw20_SccOrder.l3 k A (i : Int) (clF l2 (i : Int)) r (m : Int) l0 l1 l2) true := by
   intro e
   induction e with
   | zero =>
    intro m he hm
    exact Ev.step (fun k => rfl) (Ev.neg (by omega) (step4 _ 0 rfl (Nat.zero_le _)))
   | succ e ihe =>
    intro m he hm
    have hml : m < (clF l2 (i : Int)).length := by omega
    obtain ⟨g, hg⟩ : ∃ g, g = (clF l2 (i : Int))[m] := ⟨_, rfl⟩
    have hgm : g ∈ clF l2 (i : Int) := by rw [hg]; exact List.getElem_mem _
    have hgr := hci g hgm
    obtain ⟨g0, g1⟩ := inR_iff.mp hgr
    refine Ev.step (fun k => rfl) (Ev.pos (by omega) (Ev.pos (by omega) ?_))
    rw [rd_nat hml, ← hg]
    refine Ev.pos g0 (Ev.pos (by rw [hA]; exact g1) (Ev.pos (by omega) (Ev.pos (by omega) (Ev.neg ?_ (Ev.bind (has_ev r g (by omega)) (Ev.pos ?_ ?_))))))
    ·rw [hA2 g hgr, hA2 _ hir]
     have := h.le hir (.one hgm)
     omega
    ·rw [List.contains_iff_mem, hrp]; exact .one hgm
    ·rw [wrap_upS hml (by omega)]
     exact ihe (m + 1) (by omega) (by omega)
  refine Ev.step (fun k => rfl) (Ev.pos (by omega) (Ev.one (b := clF l2 (i : Int)) (by rw [calls_some hs]) (Ev.one hr ?_)))
  exact step3 _ 0 rfl (Nat.zero_le _)
end
theorem SccOrder_pure : SccOrder.Pure := by
 intro l0 l1 l2 hwf
 have hw : ∀ f ∈ l2, f.f5.length ≤ 140737488351232 := fun f hf => by
  have := ((hwf.2.2.2 f hf).2.2.2.2.2).1
  omega
 have hev : Ev (fun k => truantlaw20_SccOrder.f k l0 l1 l2) true := by
  unfold truantlaw20_SccOrder.f
  obtain ⟨b, hb, hsm⟩ := great_ev l0 l1 l2 hw
  refine Ev.bind awake_true (Ev.pos rfl (Ev.bind hb ?_))
  cases b with
  | true => exact Ev.pos rfl (Ev.now _)
  | false =>
   obtain ⟨hn, hsf⟩ := hsm rfl
   have hs : ∀ f ∈ l2, okF f = true := fun f hf => small_ok (hsf f hf)
   obtain ⟨rows, kn, E, hg, hk, hnd, hmem, hord⟩ := knots_some (l0 := l0) (l1 := l1) hs (by omega)
   have h : KO (clF l2) l2.length rows kn E := ⟨hg, hnd, hmem, hord⟩
   refine Ev.neg (by decide) (Ev.pos (by omega) (Ev.pos (by omega) (Ev.one hk ?_)))
   refine lists_ev hs hn h (fun A hA => ?_) _ 0 rfl (Nat.zero_le _) _ ⟨by simp, fun f hf => ?_⟩
   ·refine asks_ev hs hn h A hA.1 (fun f hf => ?_) _ 0 rfl (Nat.zero_le _)
    rw [hA.2 f hf, if_pos (.inl (h.idx_lt hf))]
   ·rw [if_neg (fun q => q.elim (fun q => by omega) (fun q => by cases q))]
    unfold rd
    obtain ⟨f0, f1⟩ := inR_iff.mp hf
    rw [getD_at _ _ (by simp; omega)]; simp
 exact hev.rounds
end Go.Proofs.Ytclhjalgflebfaa.Q
