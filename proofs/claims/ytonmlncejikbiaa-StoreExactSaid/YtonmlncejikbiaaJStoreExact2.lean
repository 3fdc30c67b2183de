/- What the row of StoreExact rests on, part 2: contracts of the functions that it reaches, and the plain law. -/
import Derived.Test.YtonmlncejikbiaaJStoreExact1
/- A store behind a pointer: its block, its three rows; what lies apart; what a call may turn. -/
namespace Go.Proofs.Ytonmlncejikbiaa.Q
open Go.RowKit Go.Proofs.YtonmlncejikbiaaW.PrintWords Go.Proofs.YtonmlncejikbiaaW.PrintLast Go.Proofs.YtonmlncejikbiaaW.PrintMore
set_option linter.unusedVariables false
set_option linter.unusedSimpArgs false
def kSb : Kd (Int × Int × List Int) := Kd.pair (Kd.int .i64) (Kd.pair (Kd.int .i64) (Kd.slice 3 (Kd.int .i64)))
theorem kSb_open {w : World} {x : Int × Int × List Int} {cs : List Value} (h : kSb.K w x cs) : ∃ A1 c1, cs = [.int .i64 x.1, .int .i64 x.2.1, .slice A1 x.2.2.length c1] ∧ x.2.2.length ≤ c1 ∧ (Kd.int .i64).C w A1 x.2.2.length x.2.2 := by
 obtain ⟨_, _, rfl, rfl, ⟨_, _, rfl, rfl, ⟨A1, c1, rfl, l1, g1⟩⟩⟩ := h
 exact ⟨A1, c1, rfl, l1, g1⟩
theorem kSb_openM {w : World} {base : Nat} {ok : Nat → Prop} {x : Int × Int × List Int} {cs : List Value} (h : kSb.M w base ok x cs) : ∃ v1, cs = [.int .i64 x.1, .int .i64 x.2.1, v1] ∧ (Kd.int .i64).R 3 w base ok v1 x.2.2 := by
 obtain ⟨_, _, rfl, rfl, ⟨_, _, rfl, rfl, ⟨v1, rfl, g1⟩⟩⟩ := h
 exact ⟨v1, rfl, g1⟩
theorem kSb_mkM (w : World) (base : Nat) (ok : Nat → Prop) (x : Int × Int × List Int) {v1 : Value} (g1 : (Kd.int .i64).R 3 w base ok v1 x.2.2) : kSb.M w base ok x [.int .i64 x.1, .int .i64 x.2.1, v1] := ⟨[.int .i64 x.1], [.int .i64 x.2.1, v1], rfl, rfl, ⟨[.int .i64 x.2.1], [v1], rfl, rfl, ⟨v1, rfl, g1⟩⟩⟩
def rdS (xs : List (Int × Int × List Int)) (i : Int) : Int × Int × List Int := xs.getD i.toNat (0, 0, [])
theorem at_S {w : World} {A : Option Addr} {n : Nat} {xs : List (Int × Int × List Int)} (h : Kd.C kSb w A n xs) (i : Int) (h0 : 0 ≤ i) (h1 : i < n) : ∃ ad A1 c1, A = some ad ∧ w.cell? (ad.add (i.toNat * 3)) = some (.int .i64 (rdS xs i).1) ∧ w.cell? ⟨(ad.add (i.toNat * 3)).block, (ad.add (i.toNat * 3)).off + 1, none⟩ = some (.int .i64 (rdS xs i).2.1) ∧ w.cell? ⟨(ad.add (i.toNat * 3)).block, (ad.add (i.toNat * 3)).off + 2, none⟩ = some (.slice A1 (rdS xs i).2.2.length c1) ∧ (rdS xs i).2.2.length ≤ c1 ∧ (Kd.int .i64).C w A1 (rdS xs i).2.2.length (rdS xs i).2.2 := by
 obtain ⟨ad, c, e, _, hK, hc0⟩ := Kd.C_get h (0, 0, []) i h0 h1
 have hc : ∀ j u, c[j]? = some u → w.cell? (ad.add (i.toNat * 3 + j)) = some u := hc0
 obtain ⟨A1, c1, rfl, l1, g1⟩ := kSb_open hK
 exact ⟨ad, A1, c1, e, hc 0 _ rfl, by rw [← add_field _ _ 1 (by omega)]; exact hc 1 _ rfl, by rw [← add_field _ _ 2 (by omega)]; exact hc 2 _ rfl, l1, g1⟩
/-- A store: block g holds its structs, only read (in sok), its objects, each with a row of its own (in lok), its frames (in fok), and a number. -/
structure St (W : World) (base g : Nat) (sv lv fv : Value) (n : Int) (S : List S43) (L : List (Int × Int × List Int)) (F : List Bool) (sok lok fok : Nat → Prop) : Prop where
 blk : W.heap[g]? = some (.cells #[sv, lv, fv, .int .i64 n] 127 (0, 0))
 low : base ≤ g
 sts : Kd.V k43 43 W base sok sv S
 lst : Kd.S kSb 129 W base lok lv L
 frs : Kd.bool.R 4 W base fok fv F
 sap : ∀ k, sok k → k ≠ g ∧ ¬ lok k ∧ ¬ fok k ∧ k < W.heap.size
 lap : ∀ k, lok k → k ≠ g ∧ ¬ fok k ∧ base ≤ k ∧ k < W.heap.size
 fap : ∀ k, fok k → k ≠ g ∧ base ≤ k ∧ k < W.heap.size
section
variable {base g : Nat} {W W1 : World} {sv lv fv : Value} {n : Int} {S : List S43} {L : List (Int × Int × List Int)} {F : List Bool} {sok lok fok T : Nat → Prop}
theorem St.kept (h : St W base g sv lv fv n S L F sok lok fok) (hk : Kept W W1 T) (hg : ¬ T g) (hs : ∀ k, sok k → ¬ T k) (hl : ∀ k, lok k → ¬ T k) (hf : ∀ k, fok k → ¬ T k) : St W1 base g sv lv fv n S L F sok lok fok where
 blk := (hk.2 g (blk_lt h.blk) hg).trans h.blk
 low := h.low
 sts := Kd.V_kept h.sts hk hs
 lst := Kd.S_kept h.lst hk hl
 frs := Kd.R_kept h.frs hk hf
 sap := fun k hk1 => ⟨(h.sap k hk1).1, (h.sap k hk1).2.1, (h.sap k hk1).2.2.1, Nat.lt_of_lt_of_le (h.sap k hk1).2.2.2 hk.1⟩
 lap := fun k hk1 => ⟨(h.lap k hk1).1, (h.lap k hk1).2.1, (h.lap k hk1).2.2.1, Nat.lt_of_lt_of_le (h.lap k hk1).2.2.2 hk.1⟩
 fap := fun k hk1 => ⟨(h.fap k hk1).1, (h.fap k hk1).2.1, Nat.lt_of_lt_of_le (h.fap k hk1).2.2 hk.1⟩
theorem St.below (h : St W base g sv lv fv n S L F sok lok fok) (hb : Below W.heap.size W W1) : St W1 base g sv lv fv n S L F sok lok fok :=
 h.kept (Kept.of_below hb (fun _ => False)) (fun x => x) (fun _ _ x => x) (fun _ _ x => x) (fun _ _ x => x)
theorem St.base_le (h : St W base g sv lv fv n S L F sok lok fok) : base ≤ W.heap.size := Nat.le_trans h.low (Nat.le_of_lt (blk_lt h.blk))
/-- What is read of an object. -/
theorem St.elem (h : St W base g sv lv fv n S L F sok lok fok) (i : Int) (h0 : 0 ≤ i) (h1 : i < (L.length : Int)) :
  ∃ ad cl A1 c1, lv = .slice (some ad) L.length cl ∧ L.length ≤ cl ∧ W.cell? (ad.add (i.toNat * 3)) = some (.int .i64 (rdS L i).1) ∧ W.cell? ⟨(ad.add (i.toNat * 3)).block, (ad.add (i.toNat * 3)).off + 1, none⟩ = some (.int .i64 (rdS L i).2.1) ∧ W.cell? ⟨(ad.add (i.toNat * 3)).block, (ad.add (i.toNat * 3)).off + 2, none⟩ = some (.slice A1 (rdS L i).2.2.length c1) ∧ (rdS L i).2.2.length ≤ c1 ∧ (Kd.int .i64).C W A1 (rdS L i).2.2.length (rdS L i).2.2 := by
 obtain ⟨A, c, rfl, hc, hC⟩ := Kd.S_reads h.lst
 obtain ⟨ad, A1, c1, rfl, h2, h3, h4, h5, h6⟩ := at_S hC i h0 h1
 exact ⟨ad, c, A1, c1, rfl, hc, h2, h3, h4, h5, h6⟩
/-- The list's value. -/
theorem St.list (h : St W base g sv lv fv n S L F sok lok fok) : ∃ A c, lv = .slice A L.length c ∧ L.length ≤ c ∧ L.length ≤ 9223372036854775807 := by
 obtain ⟨A, c, e, hc, hC⟩ := Kd.S_reads h.lst
 exact ⟨A, c, e, hc, Kd.C_max hC⟩
theorem St.frames (h : St W base g sv lv fv n S L F sok lok fok) : ∃ A c, fv = .slice A F.length c ∧ F.length ≤ c ∧ F.length ≤ 9223372036854775807 ∧ Kd.bool.C W A F.length F := by
 obtain ⟨A, c, e, hc, hC⟩ := Kd.R_reads h.frs
 exact ⟨A, c, e, hc, Kd.C_max hC, hC⟩
theorem St.structs (h : St W base g sv lv fv n S L F sok lok fok) : ∃ A c, sv = .slice A S.length c ∧ S.length ≤ c ∧ Kd.C k43 W A S.length S := by
 obtain ⟨A, c, rfl⟩ := Kd.V_slice h.sts
 obtain ⟨_, h1, h2⟩ := Kd.V_reads' h.sts
 exact ⟨A, c, rfl, h1, h2⟩
/-- A number of an object is written. -/
theorem St.lend (h : St W base g sv lv fv n S L F sok lok fok) (i f : Int) (h0 : 0 ≤ i) (h1 : i < (L.length : Int)) (f0 : 0 ≤ f) (f1 : f < ((rdS L i).2.2.length : Int)) :
  ∃ ad cl b cp, lv = .slice (some ad) L.length cl ∧ L.length ≤ cl ∧ W.cell? ⟨(ad.add (i.toNat * 3)).block, (ad.add (i.toNat * 3)).off + 2, none⟩ = some (.slice (some ⟨b, 0, none⟩) (rdS L i).2.2.length cp) ∧ (rdS L i).2.2.length ≤ cp ∧ W.cell? ⟨b, f.toNat, none⟩ = some (.int .i64 (rd (rdS L i).2.2 f)) ∧ W.frozen? ⟨b, f.toNat, none⟩ = false ∧
   ∀ z : Int, St (W.setCell ⟨b, f.toNat, none⟩ (.int .i64 z)) base g sv lv fv n S (L.set i.toNat ((rdS L i).1, (rdS L i).2.1, (rdS L i).2.2.set f.toNat z)) F sok lok fok ∧ Kept W (W.setCell ⟨b, f.toNat, none⟩ (.int .i64 z)) lok ∧ Below base W (W.setCell ⟨b, f.toNat, none⟩ (.int .i64 z)) := by
 obtain ⟨A, cl, rfl, hc, hC⟩ := Kd.S_reads h.lst
 obtain ⟨ad, A1, c1, rfl, _, _, h3, h4, _⟩ := at_S hC i h0 h1
 obtain ⟨oki, cs, hcl, hM, hcc, hok, hput⟩ := Kd.S_borrow h.lst (0, 0, []) i h0 (by simpa using h1)
 obtain ⟨v1, rfl, hR⟩ := kSb_openM hM
 have hcell := hcc 2 v1 rfl
 have e2 : kSb.sz = 3 := rfl
 rw [e2, add_field _ _ 2 (by omega)] at hcell
 have hv : v1 = .slice A1 (rdS L i).2.2.length c1 := Option.some.inj (hcell.symm.trans h3)
 obtain ⟨b, cp, hf, hb0, hb1, _⟩ := Kd.R_form hR (show 0 < (L.getD i.toNat (0, 0, [])).2.2.length by have : (rdS L i).2.2.length = (L.getD i.toNat (0, 0, [])).2.2.length := rfl; omega)
 have hR2 : (Kd.int .i64).R 3 W base oki (.slice (some ⟨b, 0, none⟩) (rdS L i).2.2.length cp) (rdS L i).2.2 := by rw [hf] at hR; exact hR
 obtain ⟨c2, hc2, hM2, hcc2, hfz⟩ := Kd.R_elem hR2 0 f f0 f1
 have hM2' : c2 = [.int .i64 ((rdS L i).2.2.getD f.toNat 0)] := hM2
 have hcl2 := hcc2 0 _ (by rw [hM2']; rfl)
 have hfz2 := hfz 0
 have e1 : f.toNat * (Kd.int .i64).sz + 0 = f.toNat := by show f.toNat * 1 + 0 = f.toNat; omega
 rw [e1] at hcl2 hfz2
 have hokb : oki b := hR2.1 b rfl
 have hnl := Kd.R_reads' hR2
 refine ⟨ad, cl, b, cp, rfl, hc, by rw [h3, ← hv, hf]; rfl, by have := hnl.2.1; exact this, hcl2, hfz2, fun z => ?_⟩
 obtain ⟨q1, q2⟩ := Kd.R_putg (enc := Value.int .i64) hR2 f z
 have hlb : lok b := (hok b hokb).1
 have hkept : Kept W (W.setCell ⟨b, f.toNat, none⟩ (.int .i64 z)) lok := Kept.of_grown q2 (Kept.refl W lok) (fun k hk => .inl (by injection hk with hk; rw [← hk]; exact hlb))
 refine ⟨⟨?_, h.low, Kd.V_kept h.sts hkept (fun k hk => (h.sap k hk).2.1), ?_, Kd.R_kept h.frs hkept (fun k hk hl => (h.lap k hl).2.1 hk), fun k hk => ⟨(h.sap k hk).1, (h.sap k hk).2.1, (h.sap k hk).2.2.1, Nat.lt_of_lt_of_le (h.sap k hk).2.2.2 hkept.1⟩, fun k hk => ⟨(h.lap k hk).1, (h.lap k hk).2.1, (h.lap k hk).2.2.1, Nat.lt_of_lt_of_le (h.lap k hk).2.2.2 hkept.1⟩, fun k hk => ⟨(h.fap k hk).1, (h.fap k hk).2.1, Nat.lt_of_lt_of_le (h.fap k hk).2.2 hkept.1⟩⟩, hkept, (Below.refl base W).setCell (h.lap b hlb).2.2.1 _⟩
 ·exact (hkept.2 g (blk_lt h.blk) (fun hk => (h.lap g hk).1 rfl)).trans h.blk
 ·have hx : kSb.M (W.setCell ⟨b, f.toNat, none⟩ (.int .i64 z)) base oki ((rdS L i).1, (rdS L i).2.1, (rdS L i).2.2.set f.toNat z) [.int .i64 (L.getD i.toNat (0, 0, [])).1, .int .i64 (L.getD i.toNat (0, 0, [])).2.1, v1] := by
   rw [hf]
   exact kSb_mkM _ base oki ((rdS L i).1, (rdS L i).2.1, (rdS L i).2.2.set f.toNat z) (by
    have e3 : ((rdS L i).2.2.set f.toNat z).length = (rdS L i).2.2.length := List.length_set
    exact q1)
  exact hput (x' := ((rdS L i).1, (rdS L i).2.1, (rdS L i).2.2.set f.toNat z)) q2 (fun k hk => by injection hk with hk; rw [← hk]; exact hokb) hx
/-- A frame's Bool is written. -/
theorem St.shut (h : St W base g sv lv fv n S L F sok lok fok) (i : Int) (h0 : 0 ≤ i) (h1 : i < (F.length : Int)) :
  ∃ b cp, fv = .slice (some ⟨b, 0, none⟩) F.length cp ∧ F.length ≤ cp ∧ W.cell? ⟨b, i.toNat, none⟩ = some (.bool (rdOf false F i)) ∧ W.frozen? ⟨b, i.toNat, none⟩ = false ∧
   ∀ z : Bool, St (W.setCell ⟨b, i.toNat, none⟩ (.bool z)) base g sv lv fv n S L (F.set i.toNat z) sok lok fok ∧ Kept W (W.setCell ⟨b, i.toNat, none⟩ (.bool z)) fok ∧ Below base W (W.setCell ⟨b, i.toNat, none⟩ (.bool z)) := by
 have hR := h.frs
 obtain ⟨b, cp, rfl, hb0, hb1, _⟩ := Kd.R_form hR (by omega)
 obtain ⟨c2, hc2, hM2, hcc2, hfz⟩ := Kd.R_elem hR false i h0 (by omega)
 have ej : i.toNat * Kd.bool.sz = i.toNat := Nat.mul_one _
 have hf := hfz 0
 rw [Nat.add_zero, ej] at hf
 obtain ⟨ad, ea, hx⟩ := Kd.at_bool (Kd.R_reads' hR).2.2 i h0 (by omega)
 cases ea
 rw [add_plain] at hx
 have hfb : fok b := hR.1 b rfl
 have hnl := Kd.R_reads' hR
 refine ⟨b, cp, rfl, hnl.2.1, hx, hf, fun z => ?_⟩
 obtain ⟨q1, q2⟩ := Kd.R_putg hR i z
 have hkept : Kept W (W.setCell ⟨b, i.toNat, none⟩ (.bool z)) fok := Kept.of_grown q2 (Kept.refl W fok) (fun k hk => .inl (by injection hk with hk; rw [← hk]; exact hfb))
 refine ⟨⟨?_, h.low, Kd.V_kept h.sts hkept (fun k hk => (h.sap k hk).2.2.1), Kd.S_kept h.lst hkept (fun k hk => (h.lap k hk).2.1), ?_, fun k hk => ⟨(h.sap k hk).1, (h.sap k hk).2.1, (h.sap k hk).2.2.1, Nat.lt_of_lt_of_le (h.sap k hk).2.2.2 hkept.1⟩, fun k hk => ⟨(h.lap k hk).1, (h.lap k hk).2.1, (h.lap k hk).2.2.1, Nat.lt_of_lt_of_le (h.lap k hk).2.2.2 hkept.1⟩, fun k hk => ⟨(h.fap k hk).1, (h.fap k hk).2.1, Nat.lt_of_lt_of_le (h.fap k hk).2.2 hkept.1⟩⟩, hkept, (Below.refl base W).setCell (h.fap b hfb).2.1 _⟩
 ·exact (hkept.2 g (blk_lt h.blk) (fun hk => (h.fap g hk).1 rfl)).trans h.blk
 ·have e3 : (F.set i.toNat z).length = F.length := List.length_set
  exact q1
/-- An object comes behind the others. -/
theorem St.appended (h : St W base g sv lv fv n S L F sok lok fok) {v1 : Value} {p : Int × Int × List Int} {ok : Nat → Prop} (hS : Kd.S kSb 129 W1 base ok v1 (L ++ [p])) (hg : W.grownBy W1 lv.ownBlock) (hok : ∀ k, ok k → k ≠ g ∧ ¬ sok k ∧ ¬ fok k) :
  W1.heap[g]? = some (.cells #[sv, lv, fv, .int .i64 n] 127 (0, 0)) ∧ ∃ lok', St (W1.setCell ⟨g, 1, none⟩ v1) base g sv v1 fv n S (L ++ [p]) F sok lok' fok ∧ (∀ k, lok' k → ok k) ∧ Kept W (W1.setCell ⟨g, 1, none⟩ v1) (fun k => k = g ∨ lok k) ∧ Below base W (W1.setCell ⟨g, 1, none⟩ v1) := by
 have hk1 : Kept W W1 lok := Kept.of_grown hg (Kept.refl W lok) (fun k hk => .inl ((Kd.S_R h.lst).1 k hk))
 have hb1 := (hk1.2 g (blk_lt h.blk) (fun x => (h.lap g x).1 rfl)).trans h.blk
 have hb2 : (W1.setCell ⟨g, 1, none⟩ v1).heap[g]? = some (.cells #[sv, v1, fv, .int .i64 n] 127 (0, 0)) := blk_put hb1 1 v1 rfl
 have hk2 : Kept W (W1.setCell ⟨g, 1, none⟩ v1) (fun k => k = g ∨ lok k) := Kept.setCell (hk1.mono (fun k hk => .inr hk)) (.inl (.inl rfl)) v1
 have hsz : (W1.setCell ⟨g, 1, none⟩ v1).heap.size = W1.heap.size := by simp [World.setCell]
 have hS2 := Kd.S_mono (ok' := fun k => ok k ∧ base ≤ k ∧ k < W1.heap.size) (Kd.S_bound hS) (fun k hk => ⟨hk.1, hk.2.1, hk.2.2.1⟩)
 refine ⟨hb1, fun k => ok k ∧ base ≤ k ∧ k < W1.heap.size, ⟨hb2, h.low, ?_, Kd.S_far hS2 (p := ⟨g, 1, none⟩) (fun k hk => (hok k hk.1).1) v1, ?_, ?_, ?_, ?_⟩, fun k hk => hk.1, hk2, ((Below.refl base W).grown hg (Nat.le_trans h.low (Nat.le_of_lt (blk_lt h.blk))) (fun k hk => Kd.S_base h.lst k hk)).setCell h.low _⟩
 ·exact Kd.V_kept h.sts hk2 (fun k hk => by
   rintro (e | e)
   ·exact (h.sap k hk).1 e
   ·exact (h.sap k hk).2.1 e)
 ·exact Kd.R_kept h.frs hk2 (fun k hk => by
   rintro (e | e)
   ·exact (h.fap k hk).1 e
   ·exact (h.lap k e).2.1 hk)
 ·exact fun k hk => ⟨(h.sap k hk).1, fun hl => (hok k hl.1).2.1 hk, (h.sap k hk).2.2.1, Nat.lt_of_lt_of_le (h.sap k hk).2.2.2 hk2.1⟩
 ·exact fun k hk => ⟨(hok k hk.1).1, (hok k hk.1).2.2, hk.2.1, by rw [hsz]; exact hk.2.2⟩
 ·exact fun k hk => ⟨(h.fap k hk).1, (h.fap k hk).2.1, Nat.lt_of_lt_of_le (h.fap k hk).2.2 hk2.1⟩
/-- A frame comes behind the others. -/
theorem St.entered (h : St W base g sv lv fv n S L F sok lok fok) {v1 : Value} {p : Bool} {ok : Nat → Prop} (hR : Kd.bool.R 4 W1 base ok v1 (F ++ [p])) (hg : W.grownBy W1 fv.ownBlock) (hok : ∀ k, ok k → k ≠ g ∧ ¬ sok k ∧ ¬ lok k) :
  W1.heap[g]? = some (.cells #[sv, lv, fv, .int .i64 n] 127 (0, 0)) ∧ ∃ fok', St (W1.setCell ⟨g, 2, none⟩ v1) base g sv lv v1 n S L (F ++ [p]) sok lok fok' ∧ (∀ k, fok' k → ok k) ∧ Kept W (W1.setCell ⟨g, 2, none⟩ v1) (fun k => k = g ∨ fok k) ∧ Below base W (W1.setCell ⟨g, 2, none⟩ v1) := by
 have hk1 : Kept W W1 fok := Kept.of_grown hg (Kept.refl W fok) (fun k hk => .inl (h.frs.1 k hk))
 have hb1 := (hk1.2 g (blk_lt h.blk) (fun x => (h.fap g x).1 rfl)).trans h.blk
 have hb2 : (W1.setCell ⟨g, 2, none⟩ v1).heap[g]? = some (.cells #[sv, lv, v1, .int .i64 n] 127 (0, 0)) := blk_put hb1 2 v1 rfl
 have hk2 : Kept W (W1.setCell ⟨g, 2, none⟩ v1) (fun k => k = g ∨ fok k) := Kept.setCell (hk1.mono (fun k hk => .inr hk)) (.inl (.inl rfl)) v1
 have hsz : (W1.setCell ⟨g, 2, none⟩ v1).heap.size = W1.heap.size := by simp [World.setCell]
 have hR2 := Kd.R_mono (ok' := fun k => ok k ∧ base ≤ k ∧ k < W1.heap.size) (Kd.R_bound hR) (fun k hk => ⟨hk.1, hk.2.1, hk.2.2.1⟩)
 refine ⟨hb1, fun k => ok k ∧ base ≤ k ∧ k < W1.heap.size, ⟨hb2, h.low, ?_, ?_, Kd.R_far hR2 (p := ⟨g, 2, none⟩) (fun k hk => (hok k hk.1).1) v1, ?_, ?_, ?_⟩, fun k hk => hk.1, hk2, ((Below.refl base W).grown hg (Nat.le_trans h.low (Nat.le_of_lt (blk_lt h.blk))) (fun k hk => Kd.R_base h.frs k hk)).setCell h.low _⟩
 ·exact Kd.V_kept h.sts hk2 (fun k hk => by
   rintro (e | e)
   ·exact (h.sap k hk).1 e
   ·exact (h.sap k hk).2.2.1 e)
 ·exact Kd.S_kept h.lst hk2 (fun k hk => by
   rintro (e | e)
   ·exact (h.lap k hk).1 e
   ·exact (h.lap k hk).2.1 e)
 ·exact fun k hk => ⟨(h.sap k hk).1, (h.sap k hk).2.1, fun hl => (hok k hl.1).2.1 hk, Nat.lt_of_lt_of_le (h.sap k hk).2.2.2 hk2.1⟩
 ·exact fun k hk => ⟨(h.lap k hk).1, fun hl => (hok k hl.1).2.2 hk, (h.lap k hk).2.2.1, Nat.lt_of_lt_of_le (h.lap k hk).2.2.2 hk2.1⟩
 ·exact fun k hk => ⟨(hok k hk.1).1, hk.2.1, by rw [hsz]; exact hk.2.2⟩
/-- The number of the block turns. -/
theorem St.counted (h : St W base g sv lv fv n S L F sok lok fok) (m : Int) : St (W.setCell ⟨g, 3, none⟩ (.int .i64 m)) base g sv lv fv m S L F sok lok fok ∧ Kept W (W.setCell ⟨g, 3, none⟩ (.int .i64 m)) (fun k => k = g) ∧ Below base W (W.setCell ⟨g, 3, none⟩ (.int .i64 m)) := by
 have hk2 : Kept W (W.setCell ⟨g, 3, none⟩ (.int .i64 m)) (fun k => k = g) := Kept.setCell (S := fun k => k = g) (p := ⟨g, 3, none⟩) (Kept.refl W _) (.inl rfl) _
 exact ⟨⟨blk_put h.blk 3 _ rfl, h.low, Kd.V_kept h.sts hk2 (fun k hk => (h.sap k hk).1), Kd.S_kept h.lst hk2 (fun k hk => (h.lap k hk).1), Kd.R_kept h.frs hk2 (fun k hk => (h.fap k hk).1), fun k hk => ⟨(h.sap k hk).1, (h.sap k hk).2.1, (h.sap k hk).2.2.1, Nat.lt_of_lt_of_le (h.sap k hk).2.2.2 hk2.1⟩, fun k hk => ⟨(h.lap k hk).1, (h.lap k hk).2.1, (h.lap k hk).2.2.1, Nat.lt_of_lt_of_le (h.lap k hk).2.2.2 hk2.1⟩, fun k hk => ⟨(h.fap k hk).1, (h.fap k hk).2.1, Nat.lt_of_lt_of_le (h.fap k hk).2.2 hk2.1⟩⟩, hk2, (Below.refl base W).setCell h.low _⟩
end
/-- How many objects are of frames. -/
def frN (L : List (Int × Int × List Int)) : Int := ((L.map fun x => x.2.1).countP fun f => f != 0 : Nat)
theorem frN_0 (L : List (Int × Int × List Int)) : 0 ≤ frN L ∧ frN L ≤ (L.length : Int) := by
 unfold frN
 have := List.countP_le_length (p := fun f : Int => f != 0) (l := L.map fun x => x.2.1)
 rw [List.length_map] at this
 omega
/-- A store whose blocks lie in T. -/
def SP (w : World) (base g : Nat) (S : List S43) (L : List (Int × Int × List Int)) (F : List Bool) (T : Nat → Prop) : Prop :=
 ∃ sv lv fv sok lok fok, St w base g sv lv fv (frN L) S L F sok lok fok ∧ ∀ k, (k = g ∨ sok k ∨ lok k ∨ fok k) → T k ∧ k < w.heap.size
section
variable {base g : Nat} {w w1 : World} {S : List S43} {L : List (Int × Int × List Int)} {F : List Bool} {T U : Nat → Prop}
theorem SP.kept (h : SP w base g S L F T) (hk : Kept w w1 U) (ha : ∀ k, T k → k < w.heap.size → ¬ U k) : SP w1 base g S L F T := by
 obtain ⟨sv, lv, fv, sok, lok, fok, h, ht⟩ := h
 exact ⟨sv, lv, fv, sok, lok, fok, h.kept hk (ha g (ht g (.inl rfl)).1 (ht g (.inl rfl)).2) (fun k hk => ha k (ht k (.inr (.inl hk))).1 (ht k (.inr (.inl hk))).2) (fun k hk => ha k (ht k (.inr (.inr (.inl hk)))).1 (ht k (.inr (.inr (.inl hk)))).2) (fun k hk => ha k (ht k (.inr (.inr (.inr hk)))).1 (ht k (.inr (.inr (.inr hk)))).2), fun k hk2 => ⟨(ht k hk2).1, Nat.lt_of_lt_of_le (ht k hk2).2 hk.1⟩⟩
theorem SP.below (h : SP w base g S L F T) (hb : Below w.heap.size w w1) : SP w1 base g S L F T :=
 h.kept (Kept.of_below hb (fun _ => False)) (fun _ _ _ x => x)
theorem SP.mono (h : SP w base g S L F T) (hu : ∀ k, T k → k < w.heap.size → U k) : SP w base g S L F U := by
 obtain ⟨sv, lv, fv, sok, lok, fok, h, ht⟩ := h
 exact ⟨sv, lv, fv, sok, lok, fok, h, fun k hk => ⟨hu k (ht k hk).1 (ht k hk).2, (ht k hk).2⟩⟩
theorem SP.base_le (h : SP w base g S L F T) : base ≤ w.heap.size := by
 obtain ⟨sv, lv, fv, sok, lok, fok, h, ht⟩ := h
 exact h.base_le
end
/-- What a store's blocks may be behind a call. -/
abbrev New (w : World) (T : Nat → Prop) : Nat → Prop := fun k => T k ∨ w.heap.size ≤ k
def openF (F : List Bool) (f : Int) : Bool := decide (1 ≤ f ∧ f ≤ (F.length : Int)) && rdOf false F (f - 1)
def freedO (L : List (Int × Int × List Int)) (F : List Bool) (o : Int) : Bool := (rdS L (o - 1)).2.1 != 0 && !openF F (rdS L (o - 1)).2.1
def isSt (L : List (Int × Int × List Int)) (o : Int) : Bool := decide (1 ≤ o ∧ o ≤ (L.length : Int))
/-- What is wrong with a field of an object. -/
def chkS (L : List (Int × Int × List Int)) (F : List Bool) (o f : Int) : Int :=
 if o = 0 then 10 else if isSt L o = false then 13 else if freedO L F o = true then 14 else if f < 0 ∨ f ≥ ((rdS L (o - 1)).2.2.length : Int) then 2 else 0
def getS (L : List (Int × Int × List Int)) (F : List Bool) (o f : Int) : Int := if chkS L F o f = 0 then rd (rdS L (o - 1)).2.2 f else 0
def setS (L : List (Int × Int × List Int)) (F : List Bool) (o f n : Int) : List (Int × Int × List Int) := if chkS L F o f = 0 then L.set (o - 1).toNat ((rdS L (o - 1)).1, (rdS L (o - 1)).2.1, (rdS L (o - 1)).2.2.set f.toNat n) else L
theorem isSt_at {L : List (Int × Int × List Int)} {o : Int} (h : isSt L o = true) : ∃ n : Nat, o = (n : Int) + 1 ∧ n < L.length := by
 have := of_decide_eq_true h
 exact ⟨(o - 1).toNat, by omega, by omega⟩
/-- What is right with a field of an object. -/
theorem chkS_zero {L : List (Int × Int × List Int)} {F : List Bool} {o f : Int} (h : chkS L F o f = 0) : 0 < o ∧ o ≤ (L.length : Int) ∧ freedO L F o = false ∧ 0 ≤ f ∧ f < ((rdS L (o - 1)).2.2.length : Int) := by
 unfold chkS at h
 split at h
 ·cases h
 ·split at h
  ·cases h
  ·rename_i h2
   obtain ⟨n, e1, e2⟩ := isSt_at (by simpa using h2)
   split at h
   ·cases h
   ·rename_i h3
    split at h
    ·cases h
    ·exact ⟨by omega, by omega, by simpa using h3, by omega, by omega⟩
theorem frN_set (L : List (Int × Int × List Int)) (F : List Bool) (o f n : Int) : frN (setS L F o f n) = frN L := by
 unfold setS
 split
 ·rename_i hz
  obtain ⟨p0, p1, _, p2, p3⟩ := chkS_zero hz
  unfold frN
  rw [List.map_set]
  have e : (L.map fun x => x.2.1).set (o - 1).toNat (rdS L (o - 1)).2.1 = L.map fun x => x.2.1 := by
   apply List.ext_getElem
   ·rw [List.length_set]
   ·intro i h1 h2
    rw [List.getElem_set]
    split
    ·rename_i e
     subst e
     unfold rdS
     rw [getD_at _ _ (by omega), List.getElem_map]
    ·rfl
  rw [e]
 ·rfl
section
variable {base g : Nat} {w : World} {S : List S43} {L : List (Int × Int × List Int)} {F : List Bool} {T : Nat → Prop}
set_option maxRecDepth 100000 in
set_option maxHeartbeats 2000000 in
theorem store_isOpen.nil (f : Int) (w : World) : Calls Try.prog 87 #[.pointer none, .int .i64 f] w fun e w' => e = .returned (.bool false) ∧ Below w.heap.size w w' := by
 go_enter Try.func87, Try.ntmps87
 go_wp2
 go_ret
 exact ⟨rfl, Below.refl _ _⟩
set_option maxRecDepth 100000 in
set_option maxHeartbeats 2000000 in
theorem store_isOpen.calls (f : Int) (h : SP w base g S L F T) :
  Calls Try.prog 87 #[ptr g, .int .i64 f] w fun e w' => e = .returned (.bool (openF F f)) ∧ Below w.heap.size w w' := by
 obtain ⟨sv, lv, fv, sok, lok, fok, h, -⟩ := h
 obtain ⟨A, c, rfl, hc, hm, hC⟩ := h.frames
 obtain ⟨_, _, c2, _, _, _, _, _⟩ := bk4 h.blk
 clear h
 unfold openF
 by_cases h1 : 1 ≤ f
 ·have d1 : decide (f ≥ 1) = true := decide_eq_true h1
  by_cases h2 : f ≤ (F.length : Int)
  ·have d2 : decide (f ≤ (F.length : Int)) = true := decide_eq_true h2
   have d3 : decide (1 ≤ f ∧ f ≤ (F.length : Int)) = true := decide_eq_true ⟨h1, h2⟩
   rw [d3, Bool.true_and]
   obtain ⟨n, rfl⟩ : ∃ n : Nat, f = (n : Int) + 1 := ⟨(f - 1).toNat, by omega⟩
   have e1 : (n : Int) + 1 - 1 = n := by omega
   rw [e1]
   obtain ⟨ad, rfl, hx⟩ := Kd.at_bool hC (n : Int) (by omega) (by omega)
   simp only [Int.toNat_natCast] at hx
   generalize rdOf false F (n : Int) = b at hx ⊢
   have hw : IntKind.i64.wrap ((n : Int) + 1 - 1) = n := by rw [e1, IntKind.wrap_i64]; omega
   have hn : (n : Int) < (F.length : Int) := by omega
   clear hC d3
   go_enter Try.func87, Try.ntmps87
   go_wp2
   go_ret
   exact ⟨rfl, Below.refl _ _⟩
  ·have d2 : decide (f ≤ (F.length : Int)) = false := decide_eq_false h2
   have d3 : decide (1 ≤ f ∧ f ≤ (F.length : Int)) = false := decide_eq_false (fun h_ => h2 h_.2)
   rw [d3, Bool.false_and]
   clear hC d3
   go_enter Try.func87, Try.ntmps87
   go_wp2
   go_ret
   exact ⟨rfl, Below.refl _ _⟩
 ·have d1 : decide (f ≥ 1) = false := decide_eq_false h1
  have d3 : decide (1 ≤ f ∧ f ≤ (F.length : Int)) = false := decide_eq_false (fun h_ => h1 h_.1)
  rw [d3, Bool.false_and]
  clear hC d3
  go_enter Try.func87, Try.ntmps87
  go_wp2
  go_ret
  exact ⟨rfl, Below.refl _ _⟩
set_option maxRecDepth 100000 in
set_option maxHeartbeats 2000000 in
theorem store_is.nil (o : Int) (w : World) : Calls Try.prog 89 #[.pointer none, .int .i64 o] w fun e w' => e = .returned (.bool false) ∧ Below w.heap.size w w' := by
 go_enter Try.func89, Try.ntmps89
 go_wp2
 go_ret
 exact ⟨rfl, Below.refl _ _⟩
set_option maxRecDepth 100000 in
set_option maxHeartbeats 2000000 in
theorem store_is.calls (o : Int) (h : SP w base g S L F T) :
  Calls Try.prog 89 #[ptr g, .int .i64 o] w fun e w' => e = .returned (.bool (isSt L o)) ∧ Below w.heap.size w w' := by
 obtain ⟨sv, lv, fv, sok, lok, fok, h, -⟩ := h
 obtain ⟨A, c, rfl, hc, hm⟩ := h.list
 obtain ⟨_, c1, _, _, _, _, _, _⟩ := bk4 h.blk
 clear h
 unfold isSt
 by_cases h1 : 1 ≤ o
 ·have d1 : decide (o ≥ 1) = true := decide_eq_true h1
  have e : decide (1 ≤ o ∧ o ≤ (L.length : Int)) = decide (o ≤ (L.length : Int)) := by rw [decide_eq_decide]; omega
  rw [e]
  go_enter Try.func89, Try.ntmps89
  go_wp2
  go_ret
  exact ⟨rfl, Below.refl _ _⟩
 ·have d1 : decide (o ≥ 1) = false := decide_eq_false h1
  have e : decide (1 ≤ o ∧ o ≤ (L.length : Int)) = false := decide_eq_false (by omega)
  rw [e]
  go_enter Try.func89, Try.ntmps89
  go_wp2
  go_ret
  exact ⟨rfl, Below.refl _ _⟩
set_option maxRecDepth 100000 in
set_option maxHeartbeats 2000000 in
theorem store_isFreed.calls (n : Nat) (h : SP w base g S L F T) (hn : n < L.length) :
  Calls Try.prog 90 #[ptr g, .int .i64 ((n : Int) + 1)] w fun e w' => e = .returned (.bool (freedO L F ((n : Int) + 1))) ∧ Below w.heap.size w w' := by
 have hop := fun f w1 => fun (hb : Below w.heap.size w w1) => store_isOpen.calls f (h.below hb)
 have HOP := Aside0.mk hop; clear hop
 obtain ⟨sv, lv, fv, sok, lok, fok, h, -⟩ := h
 have e1 : (n : Int) + 1 - 1 = n := by omega
 obtain ⟨ad, cl, A1, c1', rfl, _, _, q1, _, _, _⟩ := h.elem (n : Int) (by omega) (by omega)
 obtain ⟨_, _, _, _, hm⟩ := h.list
 obtain ⟨_, c1, _, _, _, _, _, _⟩ := bk4 h.blk
 simp only [Int.toNat_natCast] at q1
 unfold freedO
 rw [e1]
 generalize (rdS L (n : Int)).2.1 = f at q1 ⊢
 have hw : IntKind.i64.wrap ((n : Int) + 1 - 1) = n := by rw [e1, IntKind.wrap_i64]; omega
 have hnl : (n : Int) < (L.length : Int) := by omega
 clear h
 by_cases hf : f = 0
 ·subst hf
  have d1 : ((0 : Int) != 0) = false := rfl
  rw [d1, Bool.false_and]
  go_enter Try.func90, Try.ntmps90
  go_wp2
  go_ret
  exact ⟨rfl, Below.refl _ _⟩
 ·have d1 : (f != 0) = true := bne_iff_ne.mpr hf
  rw [d1, Bool.true_and]
  go_enter Try.func90, Try.ntmps90
  go_wp2_with fail
  refine (HOP.out f w (Below.refl _ _)).mono ?_
  rintro e w1 ⟨rfl, hb⟩
  have HB := Aside0.mk hb; clear hb
  go_wp2
  go_ret
  exact ⟨rfl, HB.out⟩
set_option maxRecDepth 100000 in
set_option maxHeartbeats 2000000 in
theorem store_check.nil (o f : Int) (w : World) : Calls Try.prog 88 #[.pointer none, .int .i64 o, .int .i64 f] w fun e w' => e = .returned (.int .i64 13) ∧ Below w.heap.size w w' := by
 go_enter Try.func88, Try.ntmps88
 go_wp2
 go_ret
 exact ⟨rfl, Below.refl _ _⟩
set_option maxRecDepth 100000 in
set_option maxHeartbeats 4000000 in
theorem store_check.calls (o f : Int) (h : SP w base g S L F T) :
  Calls Try.prog 88 #[ptr g, .int .i64 o, .int .i64 f] w fun e w' => e = .returned (.int .i64 (chkS L F o f)) ∧ Below w.heap.size w w' := by
 have H := Aside0.mk h
 obtain ⟨sv, lv, fv, sok, lok, fok, h, -⟩ := h
 by_cases h0 : o = 0
 ·subst h0
  have hr : chkS L F 0 f = 10 := if_pos rfl
  rw [hr]
  clear h
  go_enter Try.func88, Try.ntmps88
  go_wp2
  go_ret
  exact ⟨rfl, Below.refl _ _⟩
 ·cases hi : isSt L o with
  | false =>
   have hr : chkS L F o f = 13 := by unfold chkS; rw [if_neg h0, if_pos hi]
   rw [hr]
   have hcall := store_is.calls o H.out
   rw [hi] at hcall
   have HC := Aside0.mk hcall
   clear hcall h hr hi
   go_enter Try.func88, Try.ntmps88
   go_wp2_with fail
   refine HC.out.mono ?_
   rintro e w1 ⟨rfl, hb⟩
   have HB := Aside0.mk hb; clear hb
   go_wp2
   go_ret
   exact ⟨rfl, HB.out⟩
  | true =>
   obtain ⟨n, rfl, hn⟩ := isSt_at hi
   have hcall := store_is.calls ((n : Int) + 1) H.out
   rw [hi] at hcall
   have HC := Aside0.mk hcall
   clear hcall
   cases hfr : freedO L F ((n : Int) + 1) with
   | true =>
    have hr : chkS L F ((n : Int) + 1) f = 14 := by unfold chkS; rw [if_neg h0, if_neg (by rw [hi]; decide), if_pos hfr]
    rw [hr]
    have HF : Aside0 (∀ w1, Below w.heap.size w w1 → Calls Try.prog 90 #[ptr g, .int .i64 ((n : Int) + 1)] w1 fun e w' => e = .returned (.bool true) ∧ Below w1.heap.size w1 w') := ⟨fun w1 hb => by have h1 := store_isFreed.calls n (H.out.below hb) hn; rw [hfr] at h1; exact h1⟩
    clear h hr hi hfr
    go_enter Try.func88, Try.ntmps88
    go_wp2_with fail
    refine HC.out.mono ?_
    rintro e w1 ⟨rfl, hb⟩
    have HB := Aside0.mk hb; clear hb
    go_wp2_with fail
    refine (HF.out w1 HB.out).mono ?_
    rintro e w2 ⟨rfl, hb⟩
    have HB2 := Aside0.mk (below_step HB.out hb); clear hb
    go_wp2
    go_ret
    exact ⟨rfl, HB2.out⟩
   | false =>
    have e1 : (n : Int) + 1 - 1 = n := by omega
    have HF : Aside0 (∀ w1, Below w.heap.size w w1 → Calls Try.prog 90 #[ptr g, .int .i64 ((n : Int) + 1)] w1 fun e w' => e = .returned (.bool false) ∧ Below w1.heap.size w1 w') := ⟨fun w1 hb => by have h1 := store_isFreed.calls n (H.out.below hb) hn; rw [hfr] at h1; exact h1⟩
    obtain ⟨x, hx⟩ : ∃ x, x = rdS L (n : Int) := ⟨_, rfl⟩
    have hr : chkS L F ((n : Int) + 1) f = if f < 0 ∨ f ≥ (x.2.2.length : Int) then 2 else 0 := by unfold chkS; rw [if_neg h0, if_neg (by rw [hi]; decide), if_neg (by rw [hfr]; decide), e1, ← hx]
    rw [hr]
    have hmx : L.length ≤ 9223372036854775807 := by obtain ⟨_, _, _, _, hm⟩ := h.list; exact hm
    have hw : IntKind.i64.wrap ((n : Int) + 1 - 1) = n := by rw [e1, IntKind.wrap_i64]; omega
    have HX := Aside0.mk hx; have HH := Aside0.mk h
    clear hr hx h hi hfr
    by_cases h3 : f < 0
    ·rw [if_pos (.inl h3)]
     go_enter Try.func88, Try.ntmps88
     go_wp2_with fail
     refine HC.out.mono ?_
     rintro e w1 ⟨rfl, hb⟩
     have HB := Aside0.mk hb; clear hb
     go_wp2_with fail
     refine (HF.out w1 HB.out).mono ?_
     rintro e w2 ⟨rfl, hb⟩
     have HB2 := Aside0.mk (below_step HB.out hb); clear hb
     go_wp2
     go_ret
     exact ⟨rfl, HB2.out⟩
    ·by_cases h4 : f ≥ (x.2.2.length : Int)
     ·rw [if_pos (.inr h4)]
      go_enter Try.func88, Try.ntmps88
      go_wp2_with fail
      refine HC.out.mono ?_
      rintro e w1 ⟨rfl, hb⟩
      have HB := Aside0.mk hb; clear hb
      go_wp2_with fail
      refine (HF.out w1 HB.out).mono ?_
      rintro e w2 ⟨rfl, hb⟩
      have HB2 := Aside0.mk (below_step HB.out hb); clear hb
      have h5 := HH.out.below HB2.out
      obtain ⟨ad, cl, A1, c1', rfl, _, q0, q1, q2, _, _⟩ := h5.elem (n : Int) (by omega) (by omega)
      obtain ⟨_, _, _, _, hm⟩ := h5.list
      obtain ⟨_, c1, _, _, _, _, _, _⟩ := bk4 h5.blk
      simp only [Int.toNat_natCast] at q2
      rw [← HX.out] at q2
      have hnl : (n : Int) < (L.length : Int) := by omega
      clear h5 q0 q1
      go_wp2
      go_ret
      exact ⟨rfl, HB2.out⟩
     ·rw [if_neg (by omega)]
      go_enter Try.func88, Try.ntmps88
      go_wp2_with fail
      refine HC.out.mono ?_
      rintro e w1 ⟨rfl, hb⟩
      have HB := Aside0.mk hb; clear hb
      go_wp2_with fail
      refine (HF.out w1 HB.out).mono ?_
      rintro e w2 ⟨rfl, hb⟩
      have HB2 := Aside0.mk (below_step HB.out hb); clear hb
      have h5 := HH.out.below HB2.out
      obtain ⟨ad, cl, A1, c1', rfl, _, q0, q1, q2, _, _⟩ := h5.elem (n : Int) (by omega) (by omega)
      obtain ⟨_, _, _, _, hm⟩ := h5.list
      obtain ⟨_, c1, _, _, _, _, _, _⟩ := bk4 h5.blk
      simp only [Int.toNat_natCast] at q2
      rw [← HX.out] at q2
      have hnl : (n : Int) < (L.length : Int) := by omega
      clear h5 q0 q1
      go_wp2
      go_ret
      exact ⟨rfl, HB2.out⟩
end
theorem infoBo : (Try.prog.info? 4).map (fun i => (i.zero, i.size, i.bytes)) = some (some (.bool false), Kd.bool.sz, 1) := by kernel_rfl
def openTo (F : List Bool) (j : Nat) : List Int := ((List.range j).filter fun i => F.getD i false).map fun i : Nat => (i : Int) + 1
theorem openTo_next (F : List Bool) (j : Nat) : openTo F (j + 1) = openTo F j ++ if F.getD j false = true then [(j : Int) + 1] else [] := by
 unfold openTo
 rw [List.range_succ, List.filter_append, List.map_append]
 congr 1
 cases h : F.getD j false
 ·rw [List.filter_cons_of_neg (by rw [h]; decide)]; rfl
 ·rw [List.filter_cons_of_pos (by exact h)]; rfl
theorem openTo_len (F : List Bool) (j : Nat) : (openTo F j).length ≤ j := by
 unfold openTo
 rw [List.length_map]
 have := List.length_filter_le (fun i => F.getD i false) (List.range j)
 rwa [List.length_range] at this
def frameS (L : List (Int × Int × List Int)) (o : Int) : Int := if isSt L o = true then (rdS L (o - 1)).2.1 else -1
def leaveF (F : List Bool) (f : Int) : List Bool := if openF F f = true then F.set (f - 1).toNat false else F
def leaveE (F : List Bool) (f : Int) : Int := if openF F f = true then 0 else 13
def madeS (L : List (Int × Int × List Int)) (b : Bool) : Int := if b = true then frN L else (L.length : Int) - frN L
section
variable {base g : Nat} {w : World} {S : List S43} {L : List (Int × Int × List Int)} {F : List Bool} {T : Nat → Prop}
set_option maxRecDepth 100000 in
set_option maxHeartbeats 2000000 in
theorem store_Get.nil (o f : Int) (w : World) : Calls Try.prog 51 #[.pointer none, .int .i64 o, .int .i64 f] w fun e w' => e = .returned (.tuple #[.int .i64 0, .int .i64 13]) ∧ Below w.heap.size w w' := by
 go_enter Try.func51, Try.ntmps51
 go_wp2_with fail
 refine (store_check.nil o f w).mono ?_
 rintro e w1 ⟨rfl, hb⟩
 have HB := Aside0.mk hb; clear hb
 go_wp2
 go_ret2
 exact ⟨rfl, HB.out⟩
set_option maxRecDepth 100000 in
set_option maxHeartbeats 2000000 in
theorem store_Get.calls (o f : Int) (h : SP w base g S L F T) :
  Calls Try.prog 51 #[ptr g, .int .i64 o, .int .i64 f] w fun e w' => e = .returned (.tuple #[.int .i64 (getS L F o f), .int .i64 (chkS L F o f)]) ∧ Below w.heap.size w w' := by
 have hchk := store_check.calls o f h
 obtain ⟨sv, lv, fv, sok, lok, fok, h, -⟩ := h
 unfold getS
 by_cases hz : chkS L F o f = 0
 ·rw [hz] at hchk
  rw [if_pos hz, hz]
  obtain ⟨p0, p1, _, p2, p3⟩ := chkS_zero hz
  clear hz
  obtain ⟨n, rfl⟩ : ∃ n : Nat, o = (n : Int) + 1 := ⟨(o - 1).toNat, by omega⟩
  have e1 : (n : Int) + 1 - 1 = n := by omega
  rw [e1] at p3 ⊢
  have hn : n < L.length := by omega
  obtain ⟨x, hx⟩ : ∃ x, x = rdS L (n : Int) := ⟨_, rfl⟩
  rw [← hx] at p3 ⊢
  obtain ⟨m, rfl⟩ : ∃ m : Nat, f = m := ⟨f.toNat, by omega⟩
  obtain ⟨y, hy⟩ : ∃ y, y = rd x.2.2 (m : Int) := ⟨_, rfl⟩
  rw [← hy]
  have H := Aside0.mk h; have HCH := Aside0.mk hchk; have HX := Aside0.mk hx; have HY := Aside0.mk hy; clear h hchk hx hy
  go_enter Try.func51, Try.ntmps51
  go_wp2_with fail
  refine HCH.out.mono ?_
  rintro e w1 ⟨rfl, hb⟩
  have HB := Aside0.mk hb
  have h1 := H.out.below hb
  clear hb H HCH
  obtain ⟨_, c1, _, _, _, _, _, _⟩ := bk4 h1.blk
  obtain ⟨ad, cl, A1, c1', rfl, hcl, _, _, q2, q3, q4⟩ := h1.elem (n : Int) (by omega) (by omega)
  obtain ⟨_, _, _, _, hm⟩ := h1.list
  simp only [Int.toNat_natCast] at q2
  rw [← HX.out] at q2 q3 q4
  obtain ⟨bd, rfl, hcell⟩ := Kd.at_int q4 (m : Int) (by omega) (by omega)
  simp only [Int.toNat_natCast] at hcell
  rw [← HY.out] at hcell
  have hw : IntKind.i64.wrap ((n : Int) + 1 - 1) = n := by rw [e1, IntKind.wrap_i64]; omega
  have hxm := Kd.C_max q4
  clear h1 q4 HX HY
  go_wp2
  go_ret2
  exact ⟨rfl, HB.out⟩
 ·rw [if_neg hz]
  have hne : (chkS L F o f != 0) = true := by simpa using hz
  clear hz h
  generalize chkS L F o f = c at hne hchk ⊢
  have HCH := Aside0.mk hchk; clear hchk
  go_enter Try.func51, Try.ntmps51
  go_wp2_with fail
  refine HCH.out.mono ?_
  rintro e w1 ⟨rfl, hb⟩
  have HB := Aside0.mk hb; clear hb HCH
  go_wp2
  go_ret2
  exact ⟨rfl, HB.out⟩
set_option maxRecDepth 100000 in
set_option maxHeartbeats 2000000 in
theorem store_Set.nil (o f n : Int) (w : World) : Calls Try.prog 52 #[.pointer none, .int .i64 o, .int .i64 f, .int .i64 n] w fun e w' => e = .returned (.int .i64 13) ∧ Below w.heap.size w w' := by
 go_enter Try.func52, Try.ntmps52
 go_wp2_with fail
 refine (store_check.nil o f w).mono ?_
 rintro e w1 ⟨rfl, hb⟩
 have HB := Aside0.mk hb; clear hb
 go_wp2
 go_ret
 exact ⟨rfl, HB.out⟩
set_option maxRecDepth 100000 in
set_option maxHeartbeats 4000000 in
theorem store_Set.calls (o f z : Int) (h : SP w base g S L F T) :
  Calls Try.prog 52 #[ptr g, .int .i64 o, .int .i64 f, .int .i64 z] w fun e w' => e = .returned (.int .i64 (chkS L F o f)) ∧ SP w' base g S (setS L F o f z) F (New w T) ∧ Kept w w' T ∧ Below base w w' := by
 have hbase : base ≤ w.heap.size := h.base_le
 have hchk := store_check.calls o f h
 have hfn := frN_set L F o f z
 have HS := Aside0.mk h
 obtain ⟨sv, lv, fv, sok, lok, fok, h, ht⟩ := h
 have HT := Aside0.mk ht; clear ht
 unfold setS at hfn ⊢
 by_cases hz : chkS L F o f = 0
 ·rw [hz] at hchk
  rw [if_pos hz] at hfn
  rw [if_pos hz, hz]
  obtain ⟨p0, p1, _, p2, p3⟩ := chkS_zero hz
  clear hz
  obtain ⟨n, rfl⟩ : ∃ n : Nat, o = (n : Int) + 1 := ⟨(o - 1).toNat, by omega⟩
  have e1 : (n : Int) + 1 - 1 = n := by omega
  rw [e1] at p3 hfn ⊢
  have hn : n < L.length := by omega
  obtain ⟨x, hx⟩ : ∃ x, x = rdS L (n : Int) := ⟨_, rfl⟩
  rw [← hx] at p3 hfn ⊢
  obtain ⟨m, rfl⟩ : ∃ m : Nat, f = m := ⟨f.toNat, by omega⟩
  simp only [Int.toNat_natCast] at hfn ⊢
  obtain ⟨y, hy⟩ : ∃ y, y = rd x.2.2 (m : Int) := ⟨_, rfl⟩
  have HFN := Aside0.mk hfn
  have H := Aside0.mk h; have HCH := Aside0.mk hchk; have HX := Aside0.mk hx; have HY := Aside0.mk hy; clear h hchk hx hy hfn HS
  go_enter Try.func52, Try.ntmps52
  go_wp2_with fail
  refine HCH.out.mono ?_
  rintro e w1 ⟨rfl, hb⟩
  have HK := Aside0.mk (Kept.of_below hb lok)
  have HBB := Aside0.mk (hb.mono hbase)
  have h1 := H.out.below hb
  have HSZ := Aside0.mk hb.size
  clear hb H HCH
  obtain ⟨_, c1, _, _, _, _, _, _⟩ := bk4 h1.blk
  have hxm : x.2.2.length ≤ 9223372036854775807 := by
   have h4 := (h1.elem (n : Int) (by omega) (by omega))
   obtain ⟨_, _, _, _, _, _, _, _, _, _, h4⟩ := h4
   rw [HX.out]; exact Kd.C_max h4
  obtain ⟨ad, cl, b, cp, rfl, hcl, q2, q3, q4, q5, q6⟩ := h1.lend (n : Int) (m : Int) (by omega) (by omega) p2 (by rw [← HX.out]; exact p3)
  obtain ⟨_, _, _, _, hm⟩ := h1.list
  have Q6 := Aside0.mk (q6 z)
  simp only [Int.toNat_natCast] at q2 q4 q5 Q6
  rw [← HX.out] at q2 q3 q4 Q6
  rw [← HY.out] at q4
  have hw : IntKind.i64.wrap ((n : Int) + 1 - 1) = n := by rw [e1, IntKind.wrap_i64]; omega
  clear h1 q6 HX HY
  go_wp2
  go_ret
  have hkk := HK.out.then_ Q6.out.2.1 (fun k hk => .inl hk)
  exact ⟨rfl, ⟨_, _, _, sok, lok, fok, by rw [HFN.out]; exact Q6.out.1, fun k hk => ⟨.inl (HT.out k hk).1, Nat.lt_of_lt_of_le (HT.out k hk).2 hkk.1⟩⟩, hkk.mono (fun k h_ => (HT.out k (.inr (.inr (.inl h_)))).1), HBB.out.trans Q6.out.2.2⟩
 ·rw [if_neg hz]
  have hne : (chkS L F o f != 0) = true := by simpa using hz
  clear hz h hfn
  generalize chkS L F o f = c at hne hchk ⊢
  have HCH := Aside0.mk hchk; clear hchk
  go_enter Try.func52, Try.ntmps52
  go_wp2_with fail
  refine HCH.out.mono ?_
  rintro e w1 ⟨rfl, hb⟩
  have HK := Aside0.mk (Kept.of_below hb T)
  have HBB := Aside0.mk (hb.mono hbase)
  have H1 := Aside0.mk (HS.out.below hb)
  clear hb HCH
  go_wp2
  go_ret
  exact ⟨rfl, H1.out.mono (fun k hk _ => .inl hk), HK.out, HBB.out⟩
set_option maxRecDepth 100000 in
set_option maxHeartbeats 2000000 in
theorem store_Frame.nil (o : Int) (w : World) : Calls Try.prog 56 #[.pointer none, .int .i64 o] w fun e w' => e = .returned (.int .i64 (-1)) ∧ Below w.heap.size w w' := by
 go_enter Try.func56, Try.ntmps56
 go_wp2_with fail
 refine (store_is.nil o w).mono ?_
 rintro e w1 ⟨rfl, hb⟩
 have HB := Aside0.mk hb; clear hb
 go_wp2
 go_ret
 exact ⟨rfl, HB.out⟩
set_option maxRecDepth 100000 in
set_option maxHeartbeats 2000000 in
theorem store_Frame.calls (o : Int) (h : SP w base g S L F T) :
  Calls Try.prog 56 #[ptr g, .int .i64 o] w fun e w' => e = .returned (.int .i64 (frameS L o)) ∧ Below w.heap.size w w' := by
 have hcall := store_is.calls o h
 obtain ⟨sv, lv, fv, sok, lok, fok, h, -⟩ := h
 unfold frameS
 cases hi : isSt L o with
 | false =>
  rw [hi] at hcall
  rw [if_neg (by decide)]
  have HC := Aside0.mk hcall
  clear hcall h hi
  go_enter Try.func56, Try.ntmps56
  go_wp2_with fail
  refine HC.out.mono ?_
  rintro e w1 ⟨rfl, hb⟩
  have HB := Aside0.mk hb; clear hb
  go_wp2
  go_ret
  exact ⟨rfl, HB.out⟩
 | true =>
  rw [hi] at hcall
  rw [if_pos rfl]
  obtain ⟨n, rfl, hn⟩ := isSt_at hi
  have e1 : (n : Int) + 1 - 1 = n := by omega
  rw [e1]
  have HC := Aside0.mk hcall; have H := Aside0.mk h
  clear hcall h hi
  obtain ⟨x, hx⟩ : ∃ x, x = (rdS L (n : Int)).2.1 := ⟨_, rfl⟩
  rw [← hx]
  have HX := Aside0.mk hx; clear hx
  go_enter Try.func56, Try.ntmps56
  go_wp2_with fail
  refine HC.out.mono ?_
  rintro e w1 ⟨rfl, hb⟩
  have HB := Aside0.mk hb
  have h1 := H.out.below hb
  clear hb H HC
  obtain ⟨_, c1, _, _, _, _, _, _⟩ := bk4 h1.blk
  obtain ⟨ad, cl, A1, c1', rfl, hcl, _, q1, _, _, _⟩ := h1.elem (n : Int) (by omega) (by omega)
  obtain ⟨_, _, _, _, hm⟩ := h1.list
  simp only [Int.toNat_natCast] at q1
  rw [← HX.out] at q1
  have hw : IntKind.i64.wrap ((n : Int) + 1 - 1) = n := by rw [e1, IntKind.wrap_i64]; omega
  have hnl : (n : Int) < (L.length : Int) := by omega
  clear h1 HX
  go_wp2
  go_ret
  exact ⟨rfl, HB.out⟩
set_option maxRecDepth 100000 in
set_option maxHeartbeats 2000000 in
theorem store_Made.nil (b : Bool) (w : World) : Calls Try.prog 57 #[.pointer none, .bool b] w fun e w' => e = .returned (.int .i64 0) ∧ Below w.heap.size w w' := by
 go_enter Try.func57, Try.ntmps57
 go_wp2
 go_ret
 exact ⟨rfl, Below.refl _ _⟩
set_option maxRecDepth 100000 in
set_option maxHeartbeats 2000000 in
theorem store_Made.calls (b : Bool) (h : SP w base g S L F T) :
  Calls Try.prog 57 #[ptr g, .bool b] w fun e w' => e = .returned (.int .i64 (madeS L b)) ∧ Below w.heap.size w w' := by
 obtain ⟨sv, lv, fv, sok, lok, fok, h, -⟩ := h
 obtain ⟨A, c, rfl, hc, hm⟩ := h.list
 obtain ⟨_, c1, _, c3, _, _, _, _⟩ := bk4 h.blk
 obtain ⟨n0, n1⟩ := frN_0 L
 unfold madeS
 generalize frN L = n at c3 n0 n1 ⊢
 clear h
 cases b with
 | true =>
  rw [if_pos rfl]
  go_enter Try.func57, Try.ntmps57
  go_wp2
  go_ret
  exact ⟨rfl, Below.refl _ _⟩
 | false =>
  rw [if_neg (by decide)]
  have hw : IntKind.i64.wrap ((L.length : Int) - n) = (L.length : Int) - n := by rw [IntKind.wrap_i64]; omega
  go_enter Try.func57, Try.ntmps57
  go_wp2_with fail
  go_quiet (fail)
  go_wp2
  go_ret
  exact ⟨rfl, by first | exact Below.refl _ _ | exact pw_below_drewN (Below.refl _ _) _⟩
set_option maxRecDepth 100000 in
set_option maxHeartbeats 2000000 in
theorem store_Leave.nil (f : Int) (w : World) : Calls Try.prog 53 #[.pointer none, .int .i64 f] w fun e w' => e = .returned (.int .i64 13) ∧ Below w.heap.size w w' := by
 go_enter Try.func53, Try.ntmps53
 go_wp2_with fail
 refine (store_isOpen.nil f w).mono ?_
 rintro e w1 ⟨rfl, hb⟩
 have HB := Aside0.mk hb; clear hb
 go_wp2
 go_ret
 exact ⟨rfl, HB.out⟩
set_option maxRecDepth 100000 in
set_option maxHeartbeats 4000000 in
theorem store_Leave.calls (f : Int) (h : SP w base g S L F T) :
  Calls Try.prog 53 #[ptr g, .int .i64 f] w fun e w' => e = .returned (.int .i64 (leaveE F f)) ∧ SP w' base g S L (leaveF F f) (New w T) ∧ Kept w w' T ∧ Below base w w' := by
 have hbase : base ≤ w.heap.size := h.base_le
 have hcall := store_isOpen.calls f h
 have HS := Aside0.mk h
 obtain ⟨sv, lv, fv, sok, lok, fok, h, ht⟩ := h
 have HT := Aside0.mk ht; clear ht
 unfold leaveE leaveF
 cases ho : openF F f with
 | false =>
  rw [ho] at hcall
  rw [if_neg (by decide), if_neg (by decide)]
  have HC := Aside0.mk hcall
  clear hcall h ho
  go_enter Try.func53, Try.ntmps53
  go_wp2_with fail
  refine HC.out.mono ?_
  rintro e w1 ⟨rfl, hb⟩
  have HK := Aside0.mk (Kept.of_below hb T)
  have HBB := Aside0.mk (hb.mono hbase)
  have H1 := Aside0.mk (HS.out.below hb)
  clear hb HC
  go_wp2
  go_ret
  exact ⟨rfl, H1.out.mono (fun k hk _ => .inl hk), HK.out, HBB.out⟩
 | true =>
  rw [ho] at hcall
  rw [if_pos rfl, if_pos rfl]
  unfold openF at ho
  rw [Bool.and_eq_true] at ho
  obtain ⟨o1, o2⟩ := of_decide_eq_true ho.1
  obtain ⟨n, rfl⟩ : ∃ n : Nat, f = (n : Int) + 1 := ⟨(f - 1).toNat, by omega⟩
  have e1 : (n : Int) + 1 - 1 = n := by omega
  rw [e1]
  simp only [Int.toNat_natCast]
  have hn : n < F.length := by omega
  have HC := Aside0.mk hcall; have H := Aside0.mk h
  clear hcall h ho HS
  go_enter Try.func53, Try.ntmps53
  go_wp2_with fail
  refine HC.out.mono ?_
  rintro e w1 ⟨rfl, hb⟩
  have HK := Aside0.mk (Kept.of_below hb fok)
  have HBB := Aside0.mk (hb.mono hbase)
  have h1 := H.out.below hb
  clear hb H HC
  obtain ⟨_, _, c2, _, _, _, _, _⟩ := bk4 h1.blk
  obtain ⟨_, _, _, _, hm, _⟩ := h1.frames
  obtain ⟨b, cp, rfl, hcp, q2, q3, q4⟩ := h1.shut (n : Int) (by omega) (by omega)
  have Q4 := Aside0.mk (q4 false)
  simp only [Int.toNat_natCast] at q2 q3 Q4
  generalize rdOf false F (n : Int) = x at q2
  have hw : IntKind.i64.wrap ((n : Int) + 1 - 1) = n := by rw [e1, IntKind.wrap_i64]; omega
  have hnl : (n : Int) < (F.length : Int) := by omega
  clear h1 q4
  go_wp2
  go_ret
  have hkk := HK.out.then_ Q4.out.2.1 (fun k hk => .inl hk)
  exact ⟨rfl, ⟨_, _, _, sok, lok, fok, Q4.out.1, fun k hk => ⟨.inl (HT.out k hk).1, Nat.lt_of_lt_of_le (HT.out k hk).2 hkk.1⟩⟩, hkk.mono (fun k h_ => (HT.out k (.inr (.inr (.inr h_)))).1), HBB.out.trans Q4.out.2.2⟩
set_option maxRecDepth 100000 in
set_option maxHeartbeats 2000000 in
theorem store_Enter.nil (w : World) : Calls Try.prog 54 #[.pointer none] w fun e w' => e = .returned (.int .i64 0) ∧ Below w.heap.size w w' := by
 go_enter Try.func54, Try.ntmps54
 go_wp2
 go_ret
 exact ⟨rfl, Below.refl _ _⟩
set_option maxRecDepth 100000 in
set_option maxHeartbeats 4000000 in
theorem store_Enter.calls (h : SP w base g S L F T) (hF : F.length ≤ 1000000) :
  Calls Try.prog 54 #[ptr g] w fun e w' => e = .returned (.int .i64 ((F.length : Int) + 1)) ∧ SP w' base g S L (F ++ [true]) (New w T) ∧ Kept w w' T ∧ Below base w w' := by
 have hbase : base ≤ w.heap.size := h.base_le
 obtain ⟨sv, lv, fv, sok, lok, fok, h, ht⟩ := h
 have HT := Aside0.mk ht; clear ht
 obtain ⟨A, c, rfl, hc, hm, hC⟩ := h.frames
 obtain ⟨_, _, c2, _, _, _, _, _⟩ := bk4 h.blk
 have H := Aside0.mk h
 clear hC h
 go_enter Try.func54, Try.ntmps54
 go_wp2_with (at_builtin; refine Kd.R_append Kd.bool (w0 := w) base rfl (.tmp 9) (.tmp 10) 39 4 (.bool false) 1 rfl Try.underlying39 infoBo rfl (by decide) (by decide) _ F true [.bool true] (fun k => (k ≠ g ∧ ¬ sok k ∧ ¬ lok k) ∧ (fok k ∨ w.heap.size ≤ k)) (fun _ => False) rfl rfl ?aP (fun _ hk => hk.elim) ?aF (Kd.R_mono H.out.frs (fun k hk => ⟨⟨(H.out.fap k hk).1, fun e => (H.out.sap k e).2.2.1 hk, fun e => (H.out.lap k e).2.1 hk⟩, .inl hk⟩)) (Below.refl _ _) hbase ?aL ?_)
 case aP => exact rfl
 case aF =>
  intro k hk
  refine ⟨⟨fun e => ?_, fun e => ?_, fun e => ?_⟩, ?_⟩
  rotate_left 3
  ·right; first | exact hk | (have := World.size_alloc w; omega)
  ·have := blk_lt H.out.blk; omega
  ·have := (H.out.sap k e).2.2.2; omega
  ·have := (H.out.lap k e).2.2.2; omega
 case aL => omega
 intro v5 w5 ho5 _ hg5 _
 obtain ⟨hb6, fok', hq, hlo, hke, hbe⟩ := H.out.entered ho5 hg5 (fun k hk => hk.1)
 obtain ⟨Fx, hFx⟩ : ∃ Fx, Fx = F ++ [true] := ⟨_, rfl⟩
 have hln : (Fx.length : Int) = (F.length : Int) + 1 := by rw [hFx]; simp
 rw [← hFx] at ho5 hq
 obtain ⟨Ax, cx, ex⟩ := Kd.R_slice ho5
 subst ex
 obtain ⟨_, _, x2, _, _, _, y2, _⟩ := bk4 hb6
 obtain ⟨_, _, z2, _, _, _, _, _⟩ := bk4 hq.blk
 have hxm := Kd.C_max (Kd.R_reads' hq.frs).2.2
 have HQ := Aside0.mk hq; have HKE := Aside0.mk hke; have HBE := Aside0.mk hbe; have HLO := Aside0.mk hlo
 have HG5 := Aside0.mk hg5.size
 have HFX := Aside0.mk hFx
 clear ho5 hg5 hq hlo hke hbe hb6 hFx c2
 go_wp2
 go_ret
 rw [← HFX.out]
 refine ⟨rfl, ⟨_, _, _, sok, lok, fok', HQ.out, fun k hk => ?_⟩, HKE.out.mono (fun k hk => (HT.out k (hk.elim .inl (fun h_ => .inr (.inr (.inr h_))))).1), HBE.out⟩
 rcases hk with hk | hk | hk | hk
 ·exact ⟨.inl (HT.out k (.inl hk)).1, by rw [hk]; exact blk_lt HQ.out.blk⟩
 ·exact ⟨.inl (HT.out k (.inr (.inl hk))).1, (HQ.out.sap k hk).2.2.2⟩
 ·exact ⟨.inl (HT.out k (.inr (.inr (.inl hk)))).1, (HQ.out.lap k hk).2.2.2⟩
 ·refine ⟨?_, (HQ.out.fap k hk).2.2⟩
  rcases (HLO.out k hk).2 with h_ | h_
  ·exact .inl (HT.out k (.inr (.inr (.inr h_)))).1
  ·exact .inr h_
end
def badM (S : List S43) (F : List Bool) (name : ByteArray) (f : Int) : Bool := decide (atO S name < 0) || (f != 0 && !openF F f)
def mkSL (S : List S43) (L : List (Int × Int × List Int)) (F : List Bool) (name : ByteArray) (f : Int) : List (Int × Int × List Int) := if badM S F name f = true ∨ L.length = 131072 then L else L ++ [(atO S name, f, zerosO S (atO S name))]
def mkSN (S : List S43) (L : List (Int × Int × List Int)) (F : List Bool) (name : ByteArray) (f : Int) : Int := if badM S F name f = true ∨ L.length = 131072 then 0 else (L.length : Int) + 1
def mkSE (S : List S43) (L : List (Int × Int × List Int)) (F : List Bool) (name : ByteArray) (f : Int) : Int := if badM S F name f = true then 13 else if L.length = 131072 then 4 else 0
theorem frN_put (L : List (Int × Int × List Int)) (p : Int × Int × List Int) : frN (L ++ [p]) = frN L + if (p.2.1 != 0) = true then 1 else 0 := by
 unfold frN
 rw [List.map_append, List.countP_append, List.map_singleton, List.countP_singleton]
 split <;> simp
theorem infoSb : (Try.prog.info? 129).map (fun i => (i.zero, i.size, i.bytes)) = some (some (.agg #[.int .i64 0, .int .i64 0, .slice none 0 0]), kSb.sz, 40) := by kernel_rfl
def store_Make.T8 : Bool × List (List Nat × List Nat) := (true, [([], []), ([], []), ([1], [1]), ([2], [2]), ([3], [3]), ([], []), ([], []), ([], []), ([7], [7]), ([8], [8]), ([9], [9]), ([], []), ([10, 11], [10, 11]), ([12], [12]), ([13], [13]), ([14], [14]), ([15, 15], [15]), ([5, 6, 16], [5, 6, 16]), ([17], [17]), ([4, 18], [4, 18]), ([0, 0, 1, 2, 3, 4, 5, 6, 7, 8, 9, 10, 11, 12, 13, 14, 15, 16, 17, 18, 19], [0]), ([20, 0, 1, 2, 3, 4, 5, 6, 7, 8, 9, 10, 11, 12, 13, 14, 15, 16, 17, 18, 19], [20]), ([21, 19, 19, 0, 1, 2, 3, 4, 5, 6, 7, 8, 9, 10, 11, 12, 13, 14, 15, 16, 17, 18, 19], [19, 21])])
def store_Make.B8 : List Nat := [0, 0, 2, 6, 14, 0, 0, 0, 128, 384, 896, 0, 3968, 8064, 16256, 32640, 65408, 131040, 262112, 524286, 1048575, 2097151, 4194303]
theorem store_Make.tab8 : rtab .any (opsOf Try.f50 8) = store_Make.T8 := by kernel_rfl
theorem store_Make.bits8 : waitsOk store_Make.T8.2 store_Make.B8 = true := by kernel_rfl
section
variable {base g : Nat} {w : World} {S : List S43} {L : List (Int × Int × List Int)} {F : List Bool} {T : Nat → Prop}
set_option maxRecDepth 100000 in
set_option maxHeartbeats 2000000 in
theorem store_Make.nil (name : ByteArray) (f : Int) (w : World) : Calls Try.prog 50 #[.pointer none, .string name, .int .i64 f] w fun e w' => e = .returned (.tuple #[.int .i64 0, .int .i64 13]) ∧ Below w.heap.size w w' := by
 go_enter Try.func50, Try.ntmps50
 go_wp2
 go_ret2
 exact ⟨rfl, Below.refl _ _⟩
set_option maxRecDepth 100000 in
set_option maxHeartbeats 8000000 in
theorem store_Make.calls (name : ByteArray) (f : Int) (h : SP w base g S L F T) (hL : L.length ≤ 131072) (hF : ∀ x ∈ S, x.f1.length ≤ 1000000) :
  Calls Try.prog 50 #[ptr g, .string name, .int .i64 f] w fun e w' => e = .returned (.tuple #[.int .i64 (mkSN S L F name f), .int .i64 (mkSE S L F name f)]) ∧
   SP w' base g S (mkSL S L F name f) F (New w T) ∧ Kept w w' T ∧ Below base w w' := by
 have hbase : base ≤ w.heap.size := h.base_le
 have HS := Aside0.mk h
 obtain ⟨sv, lv, fv, sok, lok, fok, h, ht⟩ := h
 have HT := Aside0.mk ht; clear ht
 obtain ⟨A, c, rfl, hc, hC⟩ := h.structs
 obtain ⟨Al, cl, rfl, hcl, hm⟩ := h.list
 obtain ⟨c0, c1, _, _, _, _, _, _⟩ := bk4 h.blk
 have hfind := kind_Find.calls A c S name (placeOf (findR (nameIs name) S)).1 (placeOf (findR (nameIs name) S)).2 w hC hc rfl
 obtain ⟨a, ha⟩ : ∃ a, a = atO S name := ⟨_, rfl⟩
 have ha' : findR (nameIs name) S = a := ha.symm
 rw [ha'] at hfind
 have H := Aside0.mk h
 by_cases hneg : a < 0
 ·have hbad : badM S F name f = true := by unfold badM; rw [← ha, decide_eq_true hneg, Bool.true_or]
  have r1 : mkSN S L F name f = 0 := if_pos (.inl hbad)
  have r2 : mkSE S L F name f = 13 := if_pos hbad
  have r3 : mkSL S L F name f = L := if_pos (.inl hbad)
  rw [r1, r2, r3]
  have hp : placeOf a = (0, false) := if_pos hneg
  rw [hp] at hfind
  have HFI := Aside0.mk hfind; clear hfind h hC ha ha' hbad r1 r2 r3
  go_enter Try.func50, Try.ntmps50
  go_wp2_with fail
  refine HFI.out.mono ?_
  rintro e w1 ⟨rfl, hb⟩
  have HB := Aside0.mk hb; clear hb c0 c1
  go_wp2
  go_ret2
  exact ⟨rfl, (HS.out.below HB.out).mono (fun k hk _ => .inl hk), Kept.of_below HB.out _, HB.out.mono hbase⟩
 ·obtain ⟨n, rfl⟩ : ∃ n : Nat, a = n := ⟨a.toNat, by omega⟩
  have hp : placeOf (n : Int) = ((n : Int), true) := if_neg hneg
  have hn : n < S.length := find_lt ha'
  rw [hp] at hfind
  have HFI := Aside0.mk hfind; clear hfind
  have hlf : (rd_T43 S (n : Int)).f1.length ≤ 1000000 := hF _ (by
   unfold rd_T43
   rw [Int.toNat_natCast, getD_at _ _ hn]
   exact List.getElem_mem hn)
  have HLF := Aside0.mk hlf
  have HOP : Aside0 (∀ w1, Below w.heap.size w w1 → Calls Try.prog 87 #[ptr g, .int .i64 f] w1 fun e w' => e = .returned (.bool (openF F f)) ∧ Below w1.heap.size w1 w') := ⟨fun w1 hb => store_isOpen.calls f (HS.out.below hb)⟩
  by_cases hf0 : f = 0
  ·subst hf0
   have d1 : ((0 : Int) != 0) = false := rfl
   have hbad : badM S F name 0 = false := by unfold badM; rw [← ha, decide_eq_false hneg]; rfl
   by_cases hfull : L.length = 131072
   ·have r1 : mkSN S L F name 0 = 0 := if_pos (.inr hfull)
    have r2 : mkSE S L F name 0 = 4 := by unfold mkSE; rw [if_neg (by rw [hbad]; decide), if_pos hfull]
    have r3 : mkSL S L F name 0 = L := if_pos (.inr hfull)
    rw [r1, r2, r3]
    have heq : ((L.length : Int) == 131072) = true := by rw [hfull]; rfl
    clear h hC ha ha' hbad r1 r2 r3 hF hlf HLF
    go_enter Try.func50, Try.ntmps50
    go_wp2_with fail
    refine HFI.out.mono ?_
    rintro e w1 ⟨rfl, hb⟩
    have HB := Aside0.mk hb; clear hb c0 c1
    obtain ⟨c0, c1, _, _, _, _, _, _⟩ := bk4 (H.out.below HB.out).blk
    go_wp2
    go_ret2
    exact ⟨rfl, (HS.out.below HB.out).mono (fun k hk _ => .inl hk), Kept.of_below HB.out _, HB.out.mono hbase⟩
   ·have hno : ¬ (badM S F name 0 = true ∨ L.length = 131072) := fun h_ => h_.elim (fun e => by rw [hbad] at e; cases e) hfull
    have r1 : mkSN S L F name 0 = (L.length : Int) + 1 := if_neg hno
    have r2 : mkSE S L F name 0 = 0 := by unfold mkSE; rw [if_neg (by rw [hbad]; decide), if_neg hfull]
    have r3 : mkSL S L F name 0 = L ++ [((n : Int), 0, zerosO S (n : Int))] := by rw [ha]; exact if_neg hno
    rw [r1, r2, r3]
    have heq : ((L.length : Int) == 131072) = false := beq_eq_false_iff_ne.mpr (by omega)
    clear h hC ha ha' hbad r1 r2 r3 hno hF hlf
    go_enter Try.func50, Try.ntmps50
    go_wp2_with fail
    refine HFI.out.mono ?_
    rintro e w1 ⟨rfl, hb⟩
    have HB := Aside0.mk hb; clear hb c0 c1
    obtain ⟨c0, c1, _, _, _, _, _, _⟩ := bk4 (H.out.below HB.out).blk
    go_upto_region 8 with (fail)
    clear c0 c1
    have HK2 := Aside0.mk (below_drew1 HB.out)
    have H2 := Aside0.mk (H.out.below HK2.out)
    clear H HFI HS HOP
    obtain ⟨ad, A1, c1', e1, _, hfc, hlc, _⟩ := at_T43 (Kd.V_reads' H2.out.sts).2.2 (n : Int) (by omega) (by omega)
    subst e1
    simp only [Int.toNat_natCast] at hfc
    obtain ⟨F1, hFe⟩ : ∃ F1, F1 = (rd_T43 S (n : Int)).f1 := ⟨_, rfl⟩
    rw [← hFe] at hfc hlc
    have HFE := Aside0.mk hFe
    rw [← hFe] at HLF
    obtain ⟨Lx, hLx⟩ : ∃ Lx, Lx = L ++ [((n : Int), 0, List.replicate F1.length (0 : Int))] := ⟨_, rfl⟩
    have HLX := Aside0.mk hLx
    have hln : (Lx.length : Int) = (L.length : Int) + 1 := by rw [hLx]; simp
    have HLN := Aside0.mk hln
    clear hFe HB hLx hln
    refine start_ (n := 23) (S := fun w' => w'.heap[g]? = some (.cells #[.slice (some ad) S.length c, .slice Al L.length cl, fv, .int .i64 (frN L)] 127 (0, 0))) (ds := [22]) (tf 0 23) (by kernel_rfl) rfl rfl (H2.out.blk) (fun hHeld => ?_)
    refine with_tabW store_Make.tab8 store_Make.bits8 (fun HT_ HW_ => ?_)
    generalize w1.drew = w2 at H2 HK2 hfc hHeld ⊢
    refine pure_ (i := 0) (N := some 41) (v := ?_) (a' := ?_) (tf 1 22) rfl rfl (any_of HT_.out (by kernel_rfl)) (fun _ _ _ h => h) (Or.inl ⟨by rfl, ?_⟩) ?_ ?_
    rotate_left
    ·intro w'
     go_simp
     with_reducible rfl
    rotate_left
    ·simp only [Act.put, List.setIfInBounds_toArray, List.set_cons_zero, List.set_cons_succ, i64_w, i32_w]
     rfl
    refine pure_ (i := 1) (N := some 42) (v := ?_) (a' := ?_) (tf 2 21) rfl rfl (any_of HT_.out (by kernel_rfl)) (fun _ _ _ h => h) (Or.inl ⟨by rfl, ?_⟩) ?_ ?_
    rotate_left
    ·intro w'
     go_simp
     with_reducible rfl
    rotate_left
    ·simp only [Act.put, List.setIfInBounds_toArray, List.set_cons_zero, List.set_cons_succ, i64_w, i32_w]
     rfl
    refine pure_ (i := 2) (N := some 43) (v := ?_) (a' := ?_) (tf 3 20) rfl rfl (any_of HT_.out (by kernel_rfl)) (fun _ _ _ h => h) (Or.inl ⟨by rfl, ?_⟩) ?_ ?_
    rotate_left
    ·intro w'
     go_simp
     with_reducible rfl
    rotate_left
    ·simp only [Act.put, List.setIfInBounds_toArray, List.set_cons_zero, List.set_cons_succ, i64_w, i32_w]
     rfl
    refine pure_ (i := 3) (N := some 44) (v := ?_) (a' := ?_) (tf 4 19) rfl rfl (any_of HT_.out (by kernel_rfl)) (fun _ _ _ h => h) (Or.inl ⟨by rfl, ?_⟩) ?_ ?_
    rotate_left
    ·intro w'
     go_simp
     with_reducible rfl
    rotate_left
    ·simp only [Act.put, List.setIfInBounds_toArray, List.set_cons_zero, List.set_cons_succ, i64_w, i32_w]
     rfl
    refine pure_ (i := 5) (N := some 46) (v := ?_) (a' := ?_) #[true, true, true, true, false, true, false, false, false, false, false, false, false, false, false, false, false, false, false, false, false, false, false] rfl rfl (any_of HT_.out (by kernel_rfl)) (fun _ _ _ h => h) (Or.inl ⟨by rfl, ?_⟩) ?_ ?_
    rotate_left
    ·intro w'
     go_simp
     with_reducible rfl
    rotate_left
    ·simp only [Act.put, List.setIfInBounds_toArray, List.set_cons_zero, List.set_cons_succ, i64_w, i32_w]
     rfl
    refine pure_ (i := 6) (N := some 47) (v := ?_) (a' := ?_) #[true, true, true, true, false, true, true, false, false, false, false, false, false, false, false, false, false, false, false, false, false, false, false] rfl rfl (any_of HT_.out (by kernel_rfl)) (fun _ _ _ h => h) (Or.inl ⟨by rfl, ?_⟩) ?_ ?_
    rotate_left
    ·intro w'
     go_simp
     with_reducible rfl
    rotate_left
    ·simp only [Act.put, List.setIfInBounds_toArray, List.set_cons_zero, List.set_cons_succ, i64_w, i32_w]
     rfl
    refine pure_ (i := 7) (N := some 48) (v := ?_) (a' := ?_) #[true, true, true, true, false, true, true, true, false, false, false, false, false, false, false, false, false, false, false, false, false, false, false] rfl rfl (any_of HT_.out (by kernel_rfl)) (fun _ _ _ h => h) (Or.inl ⟨by rfl, ?_⟩) ?_ ?_
    rotate_left
    ·intro w'
     go_simp
     with_reducible rfl
    rotate_left
    ·simp only [Act.put, List.setIfInBounds_toArray, List.set_cons_zero, List.set_cons_succ, i64_w, i32_w]
     rfl
    refine pure_ (i := 8) (N := some 49) (v := ?_) (a' := ?_) #[true, true, true, true, false, true, true, true, true, false, false, false, false, false, false, false, false, false, false, false, false, false, false] rfl rfl (any_of HT_.out (by kernel_rfl)) (fun _ _ _ h => h) (Or.inl ⟨by rfl, ?_⟩) ?_ ?_
    rotate_left
    ·intro w'
     go_simp
     with_reducible rfl
    rotate_left
    ·simp only [Act.put, List.setIfInBounds_toArray, List.set_cons_zero, List.set_cons_succ, i64_w, i32_w]
     rfl
    refine pure_ (i := 9) (N := some 50) (v := ?_) (a' := ?_) #[true, true, true, true, false, true, true, true, true, true, false, false, false, false, false, false, false, false, false, false, false, false, false] rfl rfl (any_of HT_.out (by kernel_rfl)) (fun _ _ _ h => h) (Or.inl ⟨by rfl, ?_⟩) ?_ ?_
    rotate_left
    ·intro w'
     go_simp
     with_reducible rfl
    rotate_left
    ·simp only [Act.put, List.setIfInBounds_toArray, List.set_cons_zero, List.set_cons_succ, i64_w, i32_w]
     rfl
    refine pure_ (i := 11) (N := some 52) (v := ?_) (a' := ?_) #[true, true, true, true, false, true, true, true, true, true, false, true, false, false, false, false, false, false, false, false, false, false, false] rfl rfl (any_of HT_.out (by kernel_rfl)) (fun _ _ _ h => h) (Or.inl ⟨by rfl, ?_⟩) ?_ ?_
    rotate_left
    ·intro w'
     go_simp
     with_reducible rfl
    rotate_left
    ·simp only [Act.put, List.setIfInBounds_toArray, List.set_cons_zero, List.set_cons_succ, i64_w, i32_w]
     rfl
    refine take_ (i := 4) (N := some 45) (v := ?_) (a' := ?_) #[true, true, true, true, true, true, true, true, true, true, false, true, false, false, false, false, false, false, false, false, false, false, false] rfl rfl (take_ofW HT_.out HW_.out (by kernel_rfl)) (fun _ _ _ h => h) (Or.inl ⟨by rfl, ?_⟩) hHeld ?_ ?_
    rotate_left
    ·intro w' s0
     obtain ⟨c0, c1, _, _, _, _, _, _⟩ := bk4 s0
     go_simp
     with_reducible rfl
    rotate_left
    ·simp only [Act.put, List.setIfInBounds_toArray, List.set_cons_zero, List.set_cons_succ, i64_w, i32_w]
     rfl
    refine take_ (i := 10) (N := some 51) (v := ?_) (a' := ?_) (tf 12 11) rfl rfl (take_ofW HT_.out HW_.out (by kernel_rfl)) (fun _ _ _ h => h) (Or.inl ⟨by rfl, ?_⟩) hHeld ?_ ?_
    rotate_left
    ·intro w' s0
     obtain ⟨c0, c1, _, _, _, _, _, _⟩ := bk4 s0
     go_simp
     with_reducible rfl
    rotate_left
    ·simp only [Act.put, List.setIfInBounds_toArray, List.set_cons_zero, List.set_cons_succ, i64_w, i32_w]
     rfl
    refine pure_ (i := 12) (N := some 53) (v := ?_) (a' := ?_) (tf 13 10) rfl rfl (any_of HT_.out (by kernel_rfl)) (fun _ _ _ h => h) (Or.inl ⟨by rfl, ?_⟩) ?_ ?_
    rotate_left
    ·intro w'
     go_simp
     with_reducible rfl
    rotate_left
    ·simp only [Act.put, List.setIfInBounds_toArray, List.set_cons_zero, List.set_cons_succ, i64_w, i32_w]
     rfl
    refine pure_ (i := 13) (N := some 54) (v := ?_) (a' := ?_) (tf 14 9) rfl rfl (any_of HT_.out (by kernel_rfl)) (fun _ _ _ h => h) (Or.inl ⟨by rfl, ?_⟩) ?_ ?_
    rotate_left
    ·intro w'
     go_simp
     with_reducible rfl
    rotate_left
    ·simp only [Act.put, List.setIfInBounds_toArray, List.set_cons_zero, List.set_cons_succ, i64_w, i32_w]
     rfl
    refine one_ (i := 14) (N := some 55) (tf 15 8) rfl rfl (one_of HT_.out (by kernel_rfl)) (by decide) (fun K hK => ?_)
    refine value_ (w1 := ?_) (v := ?_) (by rfl) rfl ?_ ?_
    rotate_left 2
    ·go_simp
     constructor
     ·rfl
     ·rfl
    refine hK.out _ _ (hHeld) (fun hHeld => ?_)
    clear hK K
    refine norm_ (a' := ?_) ?_ ?_
    rotate_left
    ·show Act.put _ (some 55) _ = _
     simp only [Act.put, List.setIfInBounds_toArray, List.set_cons_zero, List.set_cons_succ, i64_w, i32_w]
     rfl
    refine pure_ (i := 15) (N := some 56) (v := ?_) (a' := ?_) (tf 16 7) rfl rfl (any_of HT_.out (by kernel_rfl)) (fun _ _ _ h => h) (Or.inl ⟨by rfl, ?_⟩) ?_ ?_
    rotate_left
    ·intro w'
     go_simp
     with_reducible rfl
    rotate_left
    ·simp only [Act.put, List.setIfInBounds_toArray, List.set_cons_zero, List.set_cons_succ, i64_w, i32_w]
     rfl
    refine one_ (i := 16) (N := some 57) (tf 17 6) rfl rfl (one_of HT_.out (by kernel_rfl)) (by decide) (fun K hK => ?_)
    refine Kd.R_make_step (Kd.int .i64) (w0 := w2) w2.heap.size 3 (by rfl) (N := 57) rfl 45 _ _ rfl (F1.length : Int) rfl rfl Try.underlying45 (.int .i64 0) 8 infoInt rfl (by decide) (by decide) (0 : Int) (ok := fun _ => True) (okp := fun _ => True) rfl (fun _ h_ => h_) trivial (by omega) (by have := HLF.out; omega) (Below.refl _ _) (Nat.le_refl _) ?_
    intro v3 w3 hr3 hb3 hg3 hn3
    rw [Int.toNat_natCast] at hr3
    obtain ⟨A3, c3, e3⟩ := Kd.R_slice hr3
    rw [List.length_replicate] at e3
    subst e3
    have HR3 := Aside0.mk hr3
    have H3 := Aside0.mk (H2.out.below hb3)
    have HB3 := Aside0.mk hb3
    clear hg3 hn3 hr3
    refine hK.out _ _ ((blkB hHeld hb3)) (fun hHeld => ?_)
    clear hK K
    refine norm_ (a' := ?_) ?_ ?_
    rotate_left
    ·show Act.put _ (some 57) _ = _
     simp only [Act.put, List.setIfInBounds_toArray, List.set_cons_zero, List.set_cons_succ, i64_w, i32_w]
     rfl
    refine pure_ (i := 17) (N := some 58) (v := ?_) (a' := ?_) (tf 18 5) rfl rfl (any_of HT_.out (by kernel_rfl)) (fun _ _ _ h => h) (Or.inl ⟨by rfl, ?_⟩) ?_ ?_
    rotate_left
    ·intro w'
     go_simp
     with_reducible rfl
    rotate_left
    ·simp only [Act.put, List.setIfInBounds_toArray, List.set_cons_zero, List.set_cons_succ, i64_w, i32_w]
     rfl
    refine one_ (i := 18) (N := some 59) (tf 19 4) rfl rfl (one_of HT_.out (by kernel_rfl)) (by decide) (fun K hK => ?_)
    refine value_ (w1 := ?_) (v := ?_) (by rfl) rfl ?_ ?_
    rotate_left 2
    ·go_simp
     constructor
     ·rfl
     ·rfl
    refine hK.out _ _ ((blk_alloc hHeld _)) (fun hHeld => ?_)
    clear hK K
    refine norm_ (a' := ?_) ?_ ?_
    rotate_left
    ·show Act.put _ (some 59) _ = _
     simp only [Act.put, List.setIfInBounds_toArray, List.set_cons_zero, List.set_cons_succ, i64_w, i32_w]
     rfl
    refine one_ (i := 19) (N := some 60) (tf 20 3) rfl rfl (one_of HT_.out (by kernel_rfl)) (by decide) (fun K hK => ?_)
    refine Kd.S_append_step kSb (w0 := w3) base (by rfl) (.tmp 45) (.tmp 59) 125 129 (.agg #[.int .i64 0, .int .i64 0, .slice none 0 0]) 40 rfl Try.underlying125 infoSb rfl (by decide) (by decide) (.slice Al L.length cl) L ((n : Int), 0, List.replicate F1.length (0 : Int)) [.int .i64 n, .int .i64 0, .slice A3 F1.length c3] (fun k => (k ≠ g ∧ ¬ sok k ∧ ¬ fok k) ∧ (lok k ∨ w2.heap.size ≤ k)) (fun k => some k = (Value.slice A3 F1.length c3).ownBlock) rfl rfl ?aP ?aK ?aF ?aO (Below.refl _ _) ?aS ?aL ?_
    case aP => exact kSb_mkM _ _ _ ((n : Int), 0, List.replicate F1.length (0 : Int)) (Kd.R_tight rfl (Kd.R_lower HR3.out (Nat.le_trans H2.out.low (Nat.le_of_lt (blk_lt H2.out.blk)))))
    case aK =>
     exact fun k hk => by
      have hge := Kd.R_base HR3.out k hk.symm
      refine ⟨⟨⟨fun e => ?_, fun e => ?_, fun e => ?_⟩, .inr hge⟩, fun e => ?_⟩
      ·have := blk_lt H2.out.blk; omega
      ·have := (H2.out.sap k e).2.2.2; omega
      ·have := (H2.out.fap k e).2.2; omega
      ·have := (H2.out.lap k ((Kd.S_R H2.out.lst).1 k e.symm)).2.2.2; omega
    case aF =>
     exact fun k hk => by
      have hge := Nat.le_trans HB3.out.size hk
      refine ⟨⟨fun e => ?_, fun e => ?_, fun e => ?_⟩, .inr hge⟩
      ·have := blk_lt H2.out.blk; omega
      ·have := (H2.out.sap k e).2.2.2; omega
      ·have := (H2.out.fap k e).2.2; omega
    case aO => exact Kd.S_mono H3.out.lst (fun k hk => ⟨⟨⟨(H2.out.lap k hk).1, fun e => (H2.out.sap k e).2.1 hk, (H2.out.lap k hk).2.1⟩, .inl hk⟩, fun e => by have := Kd.R_base HR3.out k e.symm; have := (H2.out.lap k hk).2.2.2; omega⟩)
    case aS => exact Nat.le_trans H3.out.low (Nat.le_of_lt (blk_lt H3.out.blk))
    case aL => omega
    intro v5 w5 ho5 _ hg5 _
    obtain ⟨hb6, lok', hq, hlo, hke, hbe⟩ := H3.out.appended ho5 hg5 (fun k hk => hk.1)
    rw [← HLX.out] at ho5 hq
    obtain ⟨Ax, cx, ex⟩ := Kd.S_slice ho5
    subst ex
    have HQ := Aside0.mk hq
    have HLO0 := Aside0.mk hlo
    have HKE0 := Aside0.mk hke
    have HBE0 := Aside0.mk hbe
    clear ho5 hg5 hq hlo hke hbe
    refine hK.out _ _ (hb6) (fun hHeld => ?_)
    clear hK K
    refine norm_ (a' := ?_) ?_ ?_
    rotate_left
    ·show Act.put _ (some 60) _ = _
     simp only [Act.put, List.setIfInBounds_toArray, List.set_cons_zero, List.set_cons_succ, i64_w, i32_w]
     rfl
    refine pure_ (i := 20) (N := some 61) (v := ?_) (a' := ?_) (tf 21 2) rfl rfl (any_of HT_.out (by kernel_rfl)) (fun _ _ _ h => h) (Or.inl ⟨by rfl, ?_⟩) ?_ ?_
    rotate_left
    ·intro w'
     go_simp
     with_reducible rfl
    rotate_left
    ·simp only [Act.put, List.setIfInBounds_toArray, List.set_cons_zero, List.set_cons_succ, i64_w, i32_w]
     rfl
    refine pure_ (i := 21) (N := some 62) (v := ?_) (a' := ?_) (tf 22 1) rfl rfl (any_of HT_.out (by kernel_rfl)) (fun _ _ _ h => h) (Or.inl ⟨by rfl, ?_⟩) ?_ ?_
    rotate_left
    ·intro w'
     go_simp
     with_reducible rfl
    rotate_left
    ·simp only [Act.put, List.setIfInBounds_toArray, List.set_cons_zero, List.set_cons_succ, i64_w, i32_w]
     rfl
    refine last_ (i := 22) (N := none) (tf 23 0) rfl rfl (one_of HT_.out (by kernel_rfl)) (by decide) (fun K hK => ?_)
    obtain ⟨y0, y1, y2, y3, z0, z1, z2, z3⟩ := bk4 hHeld
    refine skip_ (w1 := ?_) (by rfl) rfl ?_ ?_
    rotate_left
    ·go_simp
     rfl
    refine hK.out _ _ ?_
    clear hK K
    refine done_ (done_of HT_.out (by kernel_rfl)) ?_
    have HLO : Aside0 (∀ k, lok' k → lok k ∨ w.heap.size ≤ k) := ⟨fun k hk => (HLO0.out k hk).2.imp_right (fun h_ => Nat.le_trans HK2.out.size h_)⟩
    have HKE : Aside0 (Kept w (w5.setCell ⟨g, 1, none⟩ (.slice Ax Lx.length cx)) (fun k => k = g ∨ lok k)) := ⟨((Kept.of_below HK2.out _).below HB3.out).then_ HKE0.out (fun k hk => .inl hk)⟩
    have HBE : Aside0 (Below base w (w5.setCell ⟨g, 1, none⟩ (.slice Ax Lx.length cx))) := ⟨((HK2.out.mono hbase).trans (HB3.out.mono (Nat.le_trans H2.out.low (Nat.le_of_lt (blk_lt H2.out.blk))))).trans HBE0.out⟩
    clear HLO0 HKE0 HBE0
    generalize w5.setCell ⟨g, 1, none⟩ (.slice Ax Lx.length cx) = w6 at HQ HKE HBE ⊢
    have hfn : frN Lx = frN L := by rw [HLX.out, frN_put]; show frN L + (if ((0 : Int) != 0) = true then 1 else 0) = frN L; rw [if_neg (by decide)]; omega
    have HFN := Aside0.mk hfn; clear hfn
    obtain ⟨x0, x1, _, _, _, _, _, _⟩ := bk4 HQ.out.blk
    go_wp2
    go_ret2
    have hz : zerosO S (n : Int) = List.replicate F1.length 0 := by unfold zerosO; rw [← HFE.out]
    rw [hz, ← HLX.out]
    refine ⟨by rw [HLN.out]; rfl, ⟨_, _, _, sok, lok', fok, by rw [HFN.out]; exact HQ.out, fun k hk => ?_⟩, HKE.out.mono (fun k hk => (HT.out k (hk.elim .inl (fun h_ => .inr (.inr (.inl h_))))).1), HBE.out⟩
    rcases hk with hk | hk | hk | hk
    ·exact ⟨.inl (HT.out k (.inl hk)).1, by rw [hk]; exact blk_lt HQ.out.blk⟩
    ·exact ⟨.inl (HT.out k (.inr (.inl hk))).1, (HQ.out.sap k hk).2.2.2⟩
    ·exact ⟨(HLO.out k hk).imp_left (fun h_ => (HT.out k (.inr (.inr (.inl h_)))).1), (HQ.out.lap k hk).2.2.2⟩
    ·exact ⟨.inl (HT.out k (.inr (.inr (.inr hk)))).1, (HQ.out.fap k hk).2.2⟩
  ·have d1 : (f != 0) = true := bne_iff_ne.mpr hf0
   cases ho : openF F f with
   | false =>
    have hbad : badM S F name f = true := by unfold badM; rw [d1, ho]; simp
    have r1 : mkSN S L F name f = 0 := if_pos (.inl hbad)
    have r2 : mkSE S L F name f = 13 := if_pos hbad
    have r3 : mkSL S L F name f = L := if_pos (.inl hbad)
    rw [r1, r2, r3]
    rw [ho] at HOP
    clear h hC ha ha' hbad r1 r2 r3 hF hlf HLF
    go_enter Try.func50, Try.ntmps50
    go_wp2_with fail
    refine HFI.out.mono ?_
    rintro e w0a ⟨rfl, hb⟩
    have HBa := Aside0.mk hb; clear hb c0 c1
    go_wp2_with fail
    refine (HOP.out w0a HBa.out).mono ?_
    rintro e w1 ⟨rfl, hb⟩
    have HB := Aside0.mk (below_step HBa.out hb); clear hb
    go_wp2
    go_ret2
    exact ⟨rfl, (HS.out.below HB.out).mono (fun k hk _ => .inl hk), Kept.of_below HB.out _, HB.out.mono hbase⟩
   | true =>
    rw [ho] at HOP
    have hbad : badM S F name f = false := by unfold badM; rw [← ha, decide_eq_false hneg, ho]; simp
    by_cases hfull : L.length = 131072
    ·have r1 : mkSN S L F name f = 0 := if_pos (.inr hfull)
     have r2 : mkSE S L F name f = 4 := by unfold mkSE; rw [if_neg (by rw [hbad]; decide), if_pos hfull]
     have r3 : mkSL S L F name f = L := if_pos (.inr hfull)
     rw [r1, r2, r3]
     have heq : ((L.length : Int) == 131072) = true := by rw [hfull]; rfl
     clear h hC ha ha' hbad r1 r2 r3 hF hlf HLF
     go_enter Try.func50, Try.ntmps50
     go_wp2_with fail
     refine HFI.out.mono ?_
     rintro e w0a ⟨rfl, hb⟩
     have HBa := Aside0.mk hb; clear hb c0 c1
     go_wp2_with fail
     refine (HOP.out w0a HBa.out).mono ?_
     rintro e w1 ⟨rfl, hb⟩
     have HB := Aside0.mk (below_step HBa.out hb); clear hb HBa
     obtain ⟨c0, c1, _, _, _, _, _, _⟩ := bk4 (H.out.below HB.out).blk
     go_wp2
     go_ret2
     exact ⟨rfl, (HS.out.below HB.out).mono (fun k hk _ => .inl hk), Kept.of_below HB.out _, HB.out.mono hbase⟩
    ·have hno : ¬ (badM S F name f = true ∨ L.length = 131072) := fun h_ => h_.elim (fun e => by rw [hbad] at e; cases e) hfull
     have r1 : mkSN S L F name f = (L.length : Int) + 1 := if_neg hno
     have r2 : mkSE S L F name f = 0 := by unfold mkSE; rw [if_neg (by rw [hbad]; decide), if_neg hfull]
     have r3 : mkSL S L F name f = L ++ [((n : Int), f, zerosO S (n : Int))] := by rw [ha]; exact if_neg hno
     rw [r1, r2, r3]
     have heq : ((L.length : Int) == 131072) = false := beq_eq_false_iff_ne.mpr (by omega)
     clear h hC ha ha' hbad r1 r2 r3 hno hF hlf
     go_enter Try.func50, Try.ntmps50
     go_wp2_with fail
     refine HFI.out.mono ?_
     rintro e w0a ⟨rfl, hb⟩
     have HBa := Aside0.mk hb; clear hb c0 c1
     go_wp2_with fail
     refine (HOP.out w0a HBa.out).mono ?_
     rintro e w1 ⟨rfl, hb⟩
     have HB := Aside0.mk (below_step HBa.out hb); clear hb HBa
     obtain ⟨c0, c1, _, _, _, _, _, _⟩ := bk4 (H.out.below HB.out).blk
     go_upto_region 8 with (fail)
     clear c0 c1
     have HK2 := Aside0.mk (below_drew1 HB.out)
     have H2 := Aside0.mk (H.out.below HK2.out)
     clear H HFI HS HOP
     obtain ⟨ad, A1, c1', e1, _, hfc, hlc, _⟩ := at_T43 (Kd.V_reads' H2.out.sts).2.2 (n : Int) (by omega) (by omega)
     subst e1
     simp only [Int.toNat_natCast] at hfc
     obtain ⟨F1, hFe⟩ : ∃ F1, F1 = (rd_T43 S (n : Int)).f1 := ⟨_, rfl⟩
     rw [← hFe] at hfc hlc
     have HFE := Aside0.mk hFe
     rw [← hFe] at HLF
     obtain ⟨Lx, hLx⟩ : ∃ Lx, Lx = L ++ [((n : Int), f, List.replicate F1.length (0 : Int))] := ⟨_, rfl⟩
     have HLX := Aside0.mk hLx
     have hln : (Lx.length : Int) = (L.length : Int) + 1 := by rw [hLx]; simp
     have HLN := Aside0.mk hln
     clear hFe HB hLx hln
     refine start_ (n := 23) (S := fun w' => w'.heap[g]? = some (.cells #[.slice (some ad) S.length c, .slice Al L.length cl, fv, .int .i64 (frN L)] 127 (0, 0))) (ds := [22]) (tf 0 23) (by kernel_rfl) rfl rfl (H2.out.blk) (fun hHeld => ?_)
     refine with_tabW store_Make.tab8 store_Make.bits8 (fun HT_ HW_ => ?_)
     generalize w1.drew = w2 at H2 HK2 hfc hHeld ⊢
     refine pure_ (i := 0) (N := some 41) (v := ?_) (a' := ?_) (tf 1 22) rfl rfl (any_of HT_.out (by kernel_rfl)) (fun _ _ _ h => h) (Or.inl ⟨by rfl, ?_⟩) ?_ ?_
     rotate_left
     ·intro w'
      go_simp
      with_reducible rfl
     rotate_left
     ·simp only [Act.put, List.setIfInBounds_toArray, List.set_cons_zero, List.set_cons_succ, i64_w, i32_w]
      rfl
     refine pure_ (i := 1) (N := some 42) (v := ?_) (a' := ?_) (tf 2 21) rfl rfl (any_of HT_.out (by kernel_rfl)) (fun _ _ _ h => h) (Or.inl ⟨by rfl, ?_⟩) ?_ ?_
     rotate_left
     ·intro w'
      go_simp
      with_reducible rfl
     rotate_left
     ·simp only [Act.put, List.setIfInBounds_toArray, List.set_cons_zero, List.set_cons_succ, i64_w, i32_w]
      rfl
     refine pure_ (i := 2) (N := some 43) (v := ?_) (a' := ?_) (tf 3 20) rfl rfl (any_of HT_.out (by kernel_rfl)) (fun _ _ _ h => h) (Or.inl ⟨by rfl, ?_⟩) ?_ ?_
     rotate_left
     ·intro w'
      go_simp
      with_reducible rfl
     rotate_left
     ·simp only [Act.put, List.setIfInBounds_toArray, List.set_cons_zero, List.set_cons_succ, i64_w, i32_w]
      rfl
     refine pure_ (i := 3) (N := some 44) (v := ?_) (a' := ?_) (tf 4 19) rfl rfl (any_of HT_.out (by kernel_rfl)) (fun _ _ _ h => h) (Or.inl ⟨by rfl, ?_⟩) ?_ ?_
     rotate_left
     ·intro w'
      go_simp
      with_reducible rfl
     rotate_left
     ·simp only [Act.put, List.setIfInBounds_toArray, List.set_cons_zero, List.set_cons_succ, i64_w, i32_w]
      rfl
     refine pure_ (i := 5) (N := some 46) (v := ?_) (a' := ?_) #[true, true, true, true, false, true, false, false, false, false, false, false, false, false, false, false, false, false, false, false, false, false, false] rfl rfl (any_of HT_.out (by kernel_rfl)) (fun _ _ _ h => h) (Or.inl ⟨by rfl, ?_⟩) ?_ ?_
     rotate_left
     ·intro w'
      go_simp
      with_reducible rfl
     rotate_left
     ·simp only [Act.put, List.setIfInBounds_toArray, List.set_cons_zero, List.set_cons_succ, i64_w, i32_w]
      rfl
     refine pure_ (i := 6) (N := some 47) (v := ?_) (a' := ?_) #[true, true, true, true, false, true, true, false, false, false, false, false, false, false, false, false, false, false, false, false, false, false, false] rfl rfl (any_of HT_.out (by kernel_rfl)) (fun _ _ _ h => h) (Or.inl ⟨by rfl, ?_⟩) ?_ ?_
     rotate_left
     ·intro w'
      go_simp
      with_reducible rfl
     rotate_left
     ·simp only [Act.put, List.setIfInBounds_toArray, List.set_cons_zero, List.set_cons_succ, i64_w, i32_w]
      rfl
     refine pure_ (i := 7) (N := some 48) (v := ?_) (a' := ?_) #[true, true, true, true, false, true, true, true, false, false, false, false, false, false, false, false, false, false, false, false, false, false, false] rfl rfl (any_of HT_.out (by kernel_rfl)) (fun _ _ _ h => h) (Or.inl ⟨by rfl, ?_⟩) ?_ ?_
     rotate_left
     ·intro w'
      go_simp
      with_reducible rfl
     rotate_left
     ·simp only [Act.put, List.setIfInBounds_toArray, List.set_cons_zero, List.set_cons_succ, i64_w, i32_w]
      rfl
     refine pure_ (i := 8) (N := some 49) (v := ?_) (a' := ?_) #[true, true, true, true, false, true, true, true, true, false, false, false, false, false, false, false, false, false, false, false, false, false, false] rfl rfl (any_of HT_.out (by kernel_rfl)) (fun _ _ _ h => h) (Or.inl ⟨by rfl, ?_⟩) ?_ ?_
     rotate_left
     ·intro w'
      go_simp
      with_reducible rfl
     rotate_left
     ·simp only [Act.put, List.setIfInBounds_toArray, List.set_cons_zero, List.set_cons_succ, i64_w, i32_w]
      rfl
     refine pure_ (i := 9) (N := some 50) (v := ?_) (a' := ?_) #[true, true, true, true, false, true, true, true, true, true, false, false, false, false, false, false, false, false, false, false, false, false, false] rfl rfl (any_of HT_.out (by kernel_rfl)) (fun _ _ _ h => h) (Or.inl ⟨by rfl, ?_⟩) ?_ ?_
     rotate_left
     ·intro w'
      go_simp
      with_reducible rfl
     rotate_left
     ·simp only [Act.put, List.setIfInBounds_toArray, List.set_cons_zero, List.set_cons_succ, i64_w, i32_w]
      rfl
     refine pure_ (i := 11) (N := some 52) (v := ?_) (a' := ?_) #[true, true, true, true, false, true, true, true, true, true, false, true, false, false, false, false, false, false, false, false, false, false, false] rfl rfl (any_of HT_.out (by kernel_rfl)) (fun _ _ _ h => h) (Or.inl ⟨by rfl, ?_⟩) ?_ ?_
     rotate_left
     ·intro w'
      go_simp
      with_reducible rfl
     rotate_left
     ·simp only [Act.put, List.setIfInBounds_toArray, List.set_cons_zero, List.set_cons_succ, i64_w, i32_w]
      rfl
     refine take_ (i := 4) (N := some 45) (v := ?_) (a' := ?_) #[true, true, true, true, true, true, true, true, true, true, false, true, false, false, false, false, false, false, false, false, false, false, false] rfl rfl (take_ofW HT_.out HW_.out (by kernel_rfl)) (fun _ _ _ h => h) (Or.inl ⟨by rfl, ?_⟩) hHeld ?_ ?_
     rotate_left
     ·intro w' s0
      obtain ⟨c0, c1, _, _, _, _, _, _⟩ := bk4 s0
      go_simp
      with_reducible rfl
     rotate_left
     ·simp only [Act.put, List.setIfInBounds_toArray, List.set_cons_zero, List.set_cons_succ, i64_w, i32_w]
      rfl
     refine take_ (i := 10) (N := some 51) (v := ?_) (a' := ?_) (tf 12 11) rfl rfl (take_ofW HT_.out HW_.out (by kernel_rfl)) (fun _ _ _ h => h) (Or.inl ⟨by rfl, ?_⟩) hHeld ?_ ?_
     rotate_left
     ·intro w' s0
      obtain ⟨c0, c1, _, _, _, _, _, _⟩ := bk4 s0
      go_simp
      with_reducible rfl
     rotate_left
     ·simp only [Act.put, List.setIfInBounds_toArray, List.set_cons_zero, List.set_cons_succ, i64_w, i32_w]
      rfl
     refine pure_ (i := 12) (N := some 53) (v := ?_) (a' := ?_) (tf 13 10) rfl rfl (any_of HT_.out (by kernel_rfl)) (fun _ _ _ h => h) (Or.inl ⟨by rfl, ?_⟩) ?_ ?_
     rotate_left
     ·intro w'
      go_simp
      with_reducible rfl
     rotate_left
     ·simp only [Act.put, List.setIfInBounds_toArray, List.set_cons_zero, List.set_cons_succ, i64_w, i32_w]
      rfl
     refine pure_ (i := 13) (N := some 54) (v := ?_) (a' := ?_) (tf 14 9) rfl rfl (any_of HT_.out (by kernel_rfl)) (fun _ _ _ h => h) (Or.inl ⟨by rfl, ?_⟩) ?_ ?_
     rotate_left
     ·intro w'
      go_simp
      with_reducible rfl
     rotate_left
     ·simp only [Act.put, List.setIfInBounds_toArray, List.set_cons_zero, List.set_cons_succ, i64_w, i32_w]
      rfl
     refine one_ (i := 14) (N := some 55) (tf 15 8) rfl rfl (one_of HT_.out (by kernel_rfl)) (by decide) (fun K hK => ?_)
     refine value_ (w1 := ?_) (v := ?_) (by rfl) rfl ?_ ?_
     rotate_left 2
     ·go_simp
      constructor
      ·rfl
      ·rfl
     refine hK.out _ _ (hHeld) (fun hHeld => ?_)
     clear hK K
     refine norm_ (a' := ?_) ?_ ?_
     rotate_left
     ·show Act.put _ (some 55) _ = _
      simp only [Act.put, List.setIfInBounds_toArray, List.set_cons_zero, List.set_cons_succ, i64_w, i32_w]
      rfl
     refine pure_ (i := 15) (N := some 56) (v := ?_) (a' := ?_) (tf 16 7) rfl rfl (any_of HT_.out (by kernel_rfl)) (fun _ _ _ h => h) (Or.inl ⟨by rfl, ?_⟩) ?_ ?_
     rotate_left
     ·intro w'
      go_simp
      with_reducible rfl
     rotate_left
     ·simp only [Act.put, List.setIfInBounds_toArray, List.set_cons_zero, List.set_cons_succ, i64_w, i32_w]
      rfl
     refine one_ (i := 16) (N := some 57) (tf 17 6) rfl rfl (one_of HT_.out (by kernel_rfl)) (by decide) (fun K hK => ?_)
     refine Kd.R_make_step (Kd.int .i64) (w0 := w2) w2.heap.size 3 (by rfl) (N := 57) rfl 45 _ _ rfl (F1.length : Int) rfl rfl Try.underlying45 (.int .i64 0) 8 infoInt rfl (by decide) (by decide) (0 : Int) (ok := fun _ => True) (okp := fun _ => True) rfl (fun _ h_ => h_) trivial (by omega) (by have := HLF.out; omega) (Below.refl _ _) (Nat.le_refl _) ?_
     intro v3 w3 hr3 hb3 hg3 hn3
     rw [Int.toNat_natCast] at hr3
     obtain ⟨A3, c3, e3⟩ := Kd.R_slice hr3
     rw [List.length_replicate] at e3
     subst e3
     have HR3 := Aside0.mk hr3
     have H3 := Aside0.mk (H2.out.below hb3)
     have HB3 := Aside0.mk hb3
     clear hg3 hn3 hr3
     refine hK.out _ _ ((blkB hHeld hb3)) (fun hHeld => ?_)
     clear hK K
     refine norm_ (a' := ?_) ?_ ?_
     rotate_left
     ·show Act.put _ (some 57) _ = _
      simp only [Act.put, List.setIfInBounds_toArray, List.set_cons_zero, List.set_cons_succ, i64_w, i32_w]
      rfl
     refine pure_ (i := 17) (N := some 58) (v := ?_) (a' := ?_) (tf 18 5) rfl rfl (any_of HT_.out (by kernel_rfl)) (fun _ _ _ h => h) (Or.inl ⟨by rfl, ?_⟩) ?_ ?_
     rotate_left
     ·intro w'
      go_simp
      with_reducible rfl
     rotate_left
     ·simp only [Act.put, List.setIfInBounds_toArray, List.set_cons_zero, List.set_cons_succ, i64_w, i32_w]
      rfl
     refine one_ (i := 18) (N := some 59) (tf 19 4) rfl rfl (one_of HT_.out (by kernel_rfl)) (by decide) (fun K hK => ?_)
     refine value_ (w1 := ?_) (v := ?_) (by rfl) rfl ?_ ?_
     rotate_left 2
     ·go_simp
      constructor
      ·rfl
      ·rfl
     refine hK.out _ _ ((blk_alloc hHeld _)) (fun hHeld => ?_)
     clear hK K
     refine norm_ (a' := ?_) ?_ ?_
     rotate_left
     ·show Act.put _ (some 59) _ = _
      simp only [Act.put, List.setIfInBounds_toArray, List.set_cons_zero, List.set_cons_succ, i64_w, i32_w]
      rfl
     refine one_ (i := 19) (N := some 60) (tf 20 3) rfl rfl (one_of HT_.out (by kernel_rfl)) (by decide) (fun K hK => ?_)
     refine Kd.S_append_step kSb (w0 := w3) base (by rfl) (.tmp 45) (.tmp 59) 125 129 (.agg #[.int .i64 0, .int .i64 0, .slice none 0 0]) 40 rfl Try.underlying125 infoSb rfl (by decide) (by decide) (.slice Al L.length cl) L ((n : Int), f, List.replicate F1.length (0 : Int)) [.int .i64 n, .int .i64 f, .slice A3 F1.length c3] (fun k => (k ≠ g ∧ ¬ sok k ∧ ¬ fok k) ∧ (lok k ∨ w2.heap.size ≤ k)) (fun k => some k = (Value.slice A3 F1.length c3).ownBlock) rfl rfl ?aP ?aK ?aF ?aO (Below.refl _ _) ?aS ?aL ?_
     case aP => exact kSb_mkM _ _ _ ((n : Int), f, List.replicate F1.length (0 : Int)) (Kd.R_tight rfl (Kd.R_lower HR3.out (Nat.le_trans H2.out.low (Nat.le_of_lt (blk_lt H2.out.blk)))))
     case aK =>
      exact fun k hk => by
       have hge := Kd.R_base HR3.out k hk.symm
       refine ⟨⟨⟨fun e => ?_, fun e => ?_, fun e => ?_⟩, .inr hge⟩, fun e => ?_⟩
       ·have := blk_lt H2.out.blk; omega
       ·have := (H2.out.sap k e).2.2.2; omega
       ·have := (H2.out.fap k e).2.2; omega
       ·have := (H2.out.lap k ((Kd.S_R H2.out.lst).1 k e.symm)).2.2.2; omega
     case aF =>
      exact fun k hk => by
       have hge := Nat.le_trans HB3.out.size hk
       refine ⟨⟨fun e => ?_, fun e => ?_, fun e => ?_⟩, .inr hge⟩
       ·have := blk_lt H2.out.blk; omega
       ·have := (H2.out.sap k e).2.2.2; omega
       ·have := (H2.out.fap k e).2.2; omega
     case aO => exact Kd.S_mono H3.out.lst (fun k hk => ⟨⟨⟨(H2.out.lap k hk).1, fun e => (H2.out.sap k e).2.1 hk, (H2.out.lap k hk).2.1⟩, .inl hk⟩, fun e => by have := Kd.R_base HR3.out k e.symm; have := (H2.out.lap k hk).2.2.2; omega⟩)
     case aS => exact Nat.le_trans H3.out.low (Nat.le_of_lt (blk_lt H3.out.blk))
     case aL => omega
     intro v5 w5 ho5 _ hg5 _
     obtain ⟨hb6, lok', hq, hlo, hke, hbe⟩ := H3.out.appended ho5 hg5 (fun k hk => hk.1)
     rw [← HLX.out] at ho5 hq
     obtain ⟨Ax, cx, ex⟩ := Kd.S_slice ho5
     subst ex
     have HQ := Aside0.mk hq
     have HLO0 := Aside0.mk hlo
     have HKE0 := Aside0.mk hke
     have HBE0 := Aside0.mk hbe
     clear ho5 hg5 hq hlo hke hbe
     refine hK.out _ _ (hb6) (fun hHeld => ?_)
     clear hK K
     refine norm_ (a' := ?_) ?_ ?_
     rotate_left
     ·show Act.put _ (some 60) _ = _
      simp only [Act.put, List.setIfInBounds_toArray, List.set_cons_zero, List.set_cons_succ, i64_w, i32_w]
      rfl
     refine pure_ (i := 20) (N := some 61) (v := ?_) (a' := ?_) (tf 21 2) rfl rfl (any_of HT_.out (by kernel_rfl)) (fun _ _ _ h => h) (Or.inl ⟨by rfl, ?_⟩) ?_ ?_
     rotate_left
     ·intro w'
      go_simp
      with_reducible rfl
     rotate_left
     ·simp only [Act.put, List.setIfInBounds_toArray, List.set_cons_zero, List.set_cons_succ, i64_w, i32_w]
      rfl
     refine pure_ (i := 21) (N := some 62) (v := ?_) (a' := ?_) (tf 22 1) rfl rfl (any_of HT_.out (by kernel_rfl)) (fun _ _ _ h => h) (Or.inl ⟨by rfl, ?_⟩) ?_ ?_
     rotate_left
     ·intro w'
      go_simp
      with_reducible rfl
     rotate_left
     ·simp only [Act.put, List.setIfInBounds_toArray, List.set_cons_zero, List.set_cons_succ, i64_w, i32_w]
      rfl
     refine last_ (i := 22) (N := none) (tf 23 0) rfl rfl (one_of HT_.out (by kernel_rfl)) (by decide) (fun K hK => ?_)
     obtain ⟨y0, y1, y2, y3, z0, z1, z2, z3⟩ := bk4 hHeld
     refine skip_ (w1 := ?_) (by rfl) rfl ?_ ?_
     rotate_left
     ·go_simp
      rfl
     refine hK.out _ _ ?_
     clear hK K
     refine done_ (done_of HT_.out (by kernel_rfl)) ?_
     have HLO : Aside0 (∀ k, lok' k → lok k ∨ w.heap.size ≤ k) := ⟨fun k hk => (HLO0.out k hk).2.imp_right (fun h_ => Nat.le_trans HK2.out.size h_)⟩
     have HKE : Aside0 (Kept w (w5.setCell ⟨g, 1, none⟩ (.slice Ax Lx.length cx)) (fun k => k = g ∨ lok k)) := ⟨((Kept.of_below HK2.out _).below HB3.out).then_ HKE0.out (fun k hk => .inl hk)⟩
     have HBE : Aside0 (Below base w (w5.setCell ⟨g, 1, none⟩ (.slice Ax Lx.length cx))) := ⟨((HK2.out.mono hbase).trans (HB3.out.mono (Nat.le_trans H2.out.low (Nat.le_of_lt (blk_lt H2.out.blk))))).trans HBE0.out⟩
     clear HLO0 HKE0 HBE0
     generalize w5.setCell ⟨g, 1, none⟩ (.slice Ax Lx.length cx) = w6 at HQ HKE HBE ⊢
     have hnb := frN_0 L
     have hfn : frN Lx = frN L + 1 := by rw [HLX.out, frN_put]; show frN L + (if (f != 0) = true then 1 else 0) = frN L + 1; rw [if_pos d1]
     have HFN := Aside0.mk hfn; have HNB := Aside0.mk hnb
     obtain ⟨x0, x1, _, x3, y0, y1, _, y3⟩ := bk4 HQ.out.blk
     have hcn := HQ.out.counted (frN L + 1)
     have HCN := Aside0.mk hcn
     obtain ⟨z0, z1, _, z3, _, _, _, _⟩ := bk4 hcn.1.blk
     have hwf : IntKind.i64.wrap (frN L + 1) = frN L + 1 := by rw [IntKind.wrap_i64]; omega
     clear hnb hfn hcn x0 z0
     generalize hNN : frN L = NN at x3 z1 hwf
     go_wp2
     go_ret2
     subst hNN
     have hz : zerosO S (n : Int) = List.replicate F1.length 0 := by unfold zerosO; rw [← HFE.out]
     rw [hz, ← HLX.out]
     refine ⟨by rw [HLN.out]; rfl, ⟨_, _, _, sok, lok', fok, by rw [HFN.out]; exact HCN.out.1, fun k hk => ?_⟩, (HKE.out.then_ HCN.out.2.1 (fun k hk => .inl (.inl hk))).mono (fun k hk => (HT.out k (hk.elim .inl (fun h_ => .inr (.inr (.inl h_))))).1), HBE.out.trans HCN.out.2.2⟩
     rcases hk with hk | hk | hk | hk
     ·exact ⟨.inl (HT.out k (.inl hk)).1, by rw [hk]; exact blk_lt HCN.out.1.blk⟩
     ·exact ⟨.inl (HT.out k (.inr (.inl hk))).1, (HCN.out.1.sap k hk).2.2.2⟩
     ·exact ⟨(HLO.out k hk).imp_left (fun h_ => (HT.out k (.inr (.inr (.inl h_)))).1), (HCN.out.1.lap k hk).2.2.2⟩
     ·exact ⟨.inl (HT.out k (.inr (.inr (.inr hk)))).1, (HCN.out.1.fap k hk).2.2⟩
end
def store_New.T8 : Bool × List (List Nat × List Nat) := (true, [([], []), ([], []), ([1], [1]), ([2], [2]), ([3], [3]), ([], []), ([5], [5]), ([], []), ([7], [7]), ([8], [8]), ([6, 9], [6, 9]), ([10], [10]), ([4, 11, 9], [4, 11]), ([0, 0, 1, 2, 3, 4, 5, 6, 7, 8, 9, 10, 11, 12], [0]), ([13, 0, 1, 2, 3, 4, 5, 6, 7, 8, 9, 10, 11, 12], [13]), ([14, 12, 12, 0, 1, 2, 3, 4, 5, 6, 7, 8, 9, 10, 11, 12], [12, 14])])
def store_New.B8 : List Nat := [0, 0, 2, 6, 14, 0, 32, 0, 128, 384, 992, 2016, 4094, 8191, 16383, 32767]
theorem store_New.tab8 : rtab .any (opsOf Try.f49 8) = store_New.T8 := by kernel_rfl
theorem store_New.bits8 : waitsOk store_New.T8.2 store_New.B8 = true := by kernel_rfl
set_option maxRecDepth 100000 in
set_option maxHeartbeats 8000000 in
theorem store_New.bad (k : Nat) (A0 : Option Addr) (c0 : Nat) (l0 : List S43) (r1 r2 : Int) (w : World) (hr0 : Kd.C k43 w A0 l0.length l0) (hc0 : l0.length ≤ c0) (hk : kind_Check.f k l0 = some (r1, r2)) (hne : (r2 != 0) = true) :
  Calls Try.prog 49 #[.slice A0 l0.length c0] w fun e w' => e = .returned (.pointer none) ∧ Below w.heap.size w w' := by
 have HC := Aside0.mk (kind_Check.calls k A0 c0 l0 r1 r2 w hr0 hc0 hk)
 clear hr0 hc0 hk
 go_enter Try.func49, Try.ntmps49
 go_wp2_with fail
 refine HC.out.mono ?_
 rintro e w1 ⟨rfl, hb⟩
 have HB := Aside0.mk hb; clear hb HC
 go_wp2
 go_ret
 exact ⟨rfl, HB.out⟩
set_option maxRecDepth 100000 in
set_option maxHeartbeats 8000000 in
theorem store_New.calls (k : Nat) (A0 : Option Addr) (c0 : Nat) (l0 : List S43) (r1 : Int) (w : World) (hr0 : Kd.C k43 w A0 l0.length l0) (hc0 : l0.length ≤ c0) (hk : kind_Check.f k l0 = some (r1, 0)) (hlen : l0.length ≤ 1000000) (hF : ∀ x ∈ l0, x.f1.length ≤ 1000000) :
  Calls Try.prog 49 #[.slice A0 l0.length c0] w fun e w' => ∃ g, e = .returned (ptr g) ∧ SP w' w.heap.size g l0 [] [] (fun k => w.heap.size ≤ k) ∧ Below w.heap.size w w' := by
 have HC := Aside0.mk (kind_Check.calls k A0 c0 l0 r1 0 w hr0 hc0 hk)
 have HR0 := Aside0.mk hr0; have HC0 := Aside0.mk hc0; have HF := Aside0.mk hF
 have HMX := Aside0.mk (Kd.C_max hr0)
 clear hr0 hc0 hk hF
 have hmx := HMX.out
 go_enter Try.func49, Try.ntmps49
 go_wp2_with fail
 refine HC.out.mono ?_
 rintro e w1 ⟨rfl, hb⟩
 have HB := Aside0.mk hb; clear hb HC
 go_wp2_with fail
 have HG : Aside0 ((w1.alloc (.cells #[.slice none 0 0, .slice none 0 0, .slice none 0 0, .int .i64 0] 127)).heap[w1.heap.size]? = some (.cells #[.slice none 0 0, .slice none 0 0, .slice none 0 0, .int .i64 0] 127 (0, 0))) := ⟨blk_new _ _⟩
 have HB1 : Aside0 (Below w.heap.size w (w1.alloc (.cells #[.slice none 0 0, .slice none 0 0, .slice none 0 0, .int .i64 0] 127))) := ⟨below_alloc HB.out _⟩
 have HGE : Aside0 (w.heap.size ≤ w1.heap.size) := ⟨HB.out.size⟩
 generalize w1.alloc (.cells #[.slice none 0 0, .slice none 0 0, .slice none 0 0, .int .i64 0] 127) = w2 at HG HB1 ⊢
 generalize w1.heap.size = gh at HG HGE ⊢
 clear HB
 go_loopw [19] (fun v19 wr => ∃ (i : Nat) (v : Value), v19 = .int .i64 i ∧ i ≤ l0.length ∧ Aside0 (Below w.heap.size w wr) ∧ Aside0 (wr.heap[gh]? = some (.cells #[v, .slice none 0 0, .slice none 0 0, .int .i64 0] 127 (0, 0))) ∧ Aside0 (Kd.S k43 43 wr w.heap.size (fun k => k ≠ gh) v (l0.take i))) (fun v19 _ => l0.length - (intOf v19).toNat)
 case atStart => exact ⟨0, .slice none 0 0, rfl, Nat.zero_le _, HB1, HG, ⟨by rw [List.take_zero]; exact Kd.S_nil _ _ _ _ _⟩⟩
 case round =>
  clear HB1 HG
  obtain ⟨i, v, rfl, hi, HB, HG, HS⟩ := hrel
  by_cases hlt : i < l0.length
  ·obtain ⟨ad, B1, d1, e1, hx0, hx1, hl1, hi1⟩ := at_T43 (Kd.C_below HR0.out HB.out) (i : Int) (by omega) (by omega)
   subst e1
   simp only [Int.toNat_natCast] at hx0 hx1
   obtain ⟨x, ex⟩ : ∃ x, x = rd_T43 l0 (i : Int) := ⟨_, rfl⟩
   rw [← ex] at hx0 hx1 hl1 hi1
   have hexg : l0.take (i + 1) = l0.take i ++ [x] := by
    rw [take_next l0 z43 hlt, ex]; rfl
   obtain ⟨Lj, hLj⟩ : ∃ Lj, Lj = l0.take (i + 1) := ⟨_, rfl⟩
   obtain ⟨Li, hLi⟩ : ∃ Li, Li = l0.take i := ⟨_, rfl⟩
   rw [← hLj, ← hLi] at hexg
   have htl : Li.length ≤ 1000000 := by rw [hLi, List.length_take]; omega
   have HTL := Aside0.mk htl
   rw [← hLi] at HS
   have HEX := Aside0.mk hexg; have HLJ := Aside0.mk hLj
   clear hLj hLi htl
   have hmem : x.f1.length ≤ 1000000 := HF.out x (by
    rw [ex]; unfold rd_T43
    rw [Int.toNat_natCast, getD_at _ _ hlt]
    exact List.getElem_mem hlt)
   have HMEM := Aside0.mk hmem
   have HI := Aside0.mk hi1
   have HL1 := Aside0.mk hl1
   clear ex hexg hmem hi1 hl1
   obtain ⟨Av, cv, ev⟩ := Kd.S_slice HS.out
   subst ev
   go_upto_region 8 with (fail)
   have HL2 : Aside0 ((wr.alloc (.cells #[.string x.f0, .slice B1 x.f1.length d1] 43)).heap[wr.heap.size]? = some (.cells #[.string x.f0, .slice B1 x.f1.length d1] 43 (0, 0))) := ⟨blk_new _ _⟩
   have HBA : Aside0 (Below wr.heap.size wr (wr.alloc (.cells #[.string x.f0, .slice B1 x.f1.length d1] 43))) := ⟨below_alloc (Below.refl _ _) _⟩
   clear hx0 hx1
   generalize wr.alloc (.cells #[.string x.f0, .slice B1 x.f1.length d1] 43) = wa at HL2 HBA ⊢
   have HVB : Aside0 (∀ k, (Value.slice Av Li.length cv).ownBlock = some k → k < wr.heap.size) := ⟨Kd.S_lt HS.out⟩
   have HGB : Aside0 (gh < wr.heap.size) := ⟨blk_lt HG.out⟩
   have HB2 := Aside0.mk (below_drew1 (below_step HB.out HBA.out))
   have HG2 := Aside0.mk (blk_drew (blk_below HG.out HBA.out))
   have HS2 := Aside0.mk (Kd.S_drew (Kd.S_below HS.out HBA.out))
   have HI2 := Aside0.mk (Kd.C_drew (Kd.C_below HI.out HBA.out))
   have HL3 := Aside0.mk (blk_drew HL2.out)
   clear HB HG HS HI HL2 HBA
   generalize wr.heap.size = bs at HL3 HVB HGB ⊢
   refine start_ (n := 16) (S := fun w' => w'.heap[gh]? = some (.cells #[.slice Av Li.length cv, .slice none 0 0, .slice none 0 0, .int .i64 0] 127 (0, 0)) ∧ w'.heap[bs]? = some (.cells #[.string x.f0, .slice B1 x.f1.length d1] 43 (0, 0))) (ds := [15]) (tf 0 16) (by kernel_rfl) rfl rfl ⟨HG2.out, HL3.out⟩ (fun hHeld => ?_)
   refine with_tabW store_New.tab8 store_New.bits8 (fun HT_ HW_ => ?_)
   generalize wa.drew = w3 at HB2 HG2 HS2 HI2 HL3 hHeld ⊢
   refine pure_ (i := 0) (N := some 23) (v := ?_) (a' := ?_) (tf 1 15) rfl rfl (any_of HT_.out (by kernel_rfl)) (fun _ _ _ h => h) (Or.inl ⟨by rfl, ?_⟩) ?_ ?_
   rotate_left
   ·intro w'
    go_simp
    with_reducible rfl
   rotate_left
   ·simp only [Act.put, List.setIfInBounds_toArray, List.set_cons_zero, List.set_cons_succ, i64_w, i32_w]
    rfl
   refine pure_ (i := 1) (N := some 24) (v := ?_) (a' := ?_) (tf 2 14) rfl rfl (any_of HT_.out (by kernel_rfl)) (fun _ _ _ h => h) (Or.inl ⟨by rfl, ?_⟩) ?_ ?_
   rotate_left
   ·intro w'
    go_simp
    with_reducible rfl
   rotate_left
   ·simp only [Act.put, List.setIfInBounds_toArray, List.set_cons_zero, List.set_cons_succ, i64_w, i32_w]
    rfl
   refine pure_ (i := 2) (N := some 25) (v := ?_) (a' := ?_) (tf 3 13) rfl rfl (any_of HT_.out (by kernel_rfl)) (fun _ _ _ h => h) (Or.inl ⟨by rfl, ?_⟩) ?_ ?_
   rotate_left
   ·intro w'
    go_simp
    with_reducible rfl
   rotate_left
   ·simp only [Act.put, List.setIfInBounds_toArray, List.set_cons_zero, List.set_cons_succ, i64_w, i32_w]
    rfl
   refine pure_ (i := 3) (N := some 26) (v := ?_) (a' := ?_) (tf 4 12) rfl rfl (any_of HT_.out (by kernel_rfl)) (fun _ _ _ h => h) (Or.inl ⟨by rfl, ?_⟩) ?_ ?_
   rotate_left
   ·intro w'
    go_simp
    with_reducible rfl
   rotate_left
   ·simp only [Act.put, List.setIfInBounds_toArray, List.set_cons_zero, List.set_cons_succ, i64_w, i32_w]
    rfl
   refine pure_ (i := 5) (N := some 28) (v := ?_) (a' := ?_) #[true, true, true, true, false, true, false, false, false, false, false, false, false, false, false, false] rfl rfl (any_of HT_.out (by kernel_rfl)) (fun _ _ _ h => h) (Or.inl ⟨by rfl, ?_⟩) ?_ ?_
   rotate_left
   ·intro w'
    go_simp
    with_reducible rfl
   rotate_left
   ·simp only [Act.put, List.setIfInBounds_toArray, List.set_cons_zero, List.set_cons_succ, i64_w, i32_w]
    rfl
   refine pure_ (i := 7) (N := some 30) (v := ?_) (a' := ?_) #[true, true, true, true, false, true, false, true, false, false, false, false, false, false, false, false] rfl rfl (any_of HT_.out (by kernel_rfl)) (fun _ _ _ h => h) (Or.inl ⟨by rfl, ?_⟩) ?_ ?_
   rotate_left
   ·intro w'
    go_simp
    with_reducible rfl
   rotate_left
   ·simp only [Act.put, List.setIfInBounds_toArray, List.set_cons_zero, List.set_cons_succ, i64_w, i32_w]
    rfl
   refine take_ (i := 4) (N := some 27) (v := ?_) (a' := ?_) #[true, true, true, true, true, true, false, true, false, false, false, false, false, false, false, false] rfl rfl (take_ofW HT_.out HW_.out (by kernel_rfl)) (fun _ _ _ h => h) (Or.inl ⟨by rfl, ?_⟩) hHeld ?_ ?_
   rotate_left
   ·rintro w' ⟨s0, s1⟩
    obtain ⟨c0, c1, _, _, _, _, _, _⟩ := bk4 s0
    obtain ⟨b0, b1, _, _⟩ := bk2 s1
    go_simp
    with_reducible rfl
   rotate_left
   ·simp only [Act.put, List.setIfInBounds_toArray, List.set_cons_zero, List.set_cons_succ, i64_w, i32_w]
    rfl
   refine take_ (i := 6) (N := some 29) (v := ?_) (a' := ?_) (tf 8 8) rfl rfl (take_ofW HT_.out HW_.out (by kernel_rfl)) (fun _ _ _ h => h) (Or.inl ⟨by rfl, ?_⟩) hHeld ?_ ?_
   rotate_left
   ·rintro w' ⟨s0, s1⟩
    obtain ⟨c0, c1, _, _, _, _, _, _⟩ := bk4 s0
    obtain ⟨b0, b1, _, _⟩ := bk2 s1
    go_simp
    with_reducible rfl
   rotate_left
   ·simp only [Act.put, List.setIfInBounds_toArray, List.set_cons_zero, List.set_cons_succ, i64_w, i32_w]
    rfl
   refine take_ (i := 8) (N := some 31) (v := ?_) (a' := ?_) (tf 9 7) rfl rfl (take_ofW HT_.out HW_.out (by kernel_rfl)) (fun _ _ _ h => h) (Or.inl ⟨by rfl, ?_⟩) hHeld ?_ ?_
   rotate_left
   ·rintro w' ⟨s0, s1⟩
    obtain ⟨c0, c1, _, _, _, _, _, _⟩ := bk4 s0
    obtain ⟨b0, b1, _, _⟩ := bk2 s1
    go_simp
    with_reducible rfl
   rotate_left
   ·simp only [Act.put, List.setIfInBounds_toArray, List.set_cons_zero, List.set_cons_succ, i64_w, i32_w]
    rfl
   refine one_ (i := 9) (N := some 32) (tf 10 6) rfl rfl (one_of HT_.out (by kernel_rfl)) (by decide) (fun K hK => ?_)
   refine goes_ Try.func80 (by kernel_rfl) rfl #[.slice B1 x.f1.length d1] (by rfl) rfl rfl (by simp only [List.map_toArray, List.map_cons, List.map_nil]; rfl) ?_
   refine (api_Field_80.calls B1 d1 x.f1 x.f1 w3 HI2.out HL1.out (if_pos HMEM.out)).mono ?_
   rintro e w4 ⟨v4, rfl, hr4, hb4⟩
   refine ⟨_, rfl, ?_⟩
   obtain ⟨A4, c4, e4⟩ := Kd.R_slice hr4
   subst e4
   have HR4 := Aside0.mk hr4
   have HG4 := Aside0.mk (blkB hHeld.1 hb4)
   have HL4 := Aside0.mk (blkB hHeld.2 hb4)
   have HB4 := Aside0.mk (below_step HB2.out hb4)
   have HB34 := Aside0.mk hb4
   have HS4 := Aside0.mk (Kd.S_below (Kd.S_bound HS2.out) hb4)
   clear hr4
   refine hK.out _ _ ⟨(blkB hHeld.1 hb4), (blkB hHeld.2 hb4)⟩ (fun hHeld => ?_)
   clear hK K
   refine norm_ (a' := ?_) ?_ ?_
   rotate_left
   ·show Act.put _ (some 32) _ = _
    simp only [Act.put, List.setIfInBounds_toArray, List.set_cons_zero, List.set_cons_succ, i64_w, i32_w]
    rfl
   refine pure_ (i := 10) (N := some 33) (v := ?_) (a' := ?_) (tf 11 5) rfl rfl (any_of HT_.out (by kernel_rfl)) (fun _ _ _ h => h) (Or.inl ⟨by rfl, ?_⟩) ?_ ?_
   rotate_left
   ·intro w'
    go_simp
    with_reducible rfl
   rotate_left
   ·simp only [Act.put, List.setIfInBounds_toArray, List.set_cons_zero, List.set_cons_succ, i64_w, i32_w]
    rfl
   refine one_ (i := 11) (N := some 34) (tf 12 4) rfl rfl (one_of HT_.out (by kernel_rfl)) (by decide) (fun K hK => ?_)
   refine value_ (w1 := ?_) (v := ?_) (by rfl) rfl ?_ ?_
   rotate_left 2
   ·go_simp
    constructor
    ·rfl
    ·rfl
   refine hK.out _ _ ⟨(blk_alloc hHeld.1 _), (blk_alloc hHeld.2 _)⟩ (fun hHeld => ?_)
   clear hK K
   refine norm_ (a' := ?_) ?_ ?_
   rotate_left
   ·show Act.put _ (some 34) _ = _
    simp only [Act.put, List.setIfInBounds_toArray, List.set_cons_zero, List.set_cons_succ, i64_w, i32_w]
    rfl
   refine one_ (i := 12) (N := some 35) (tf 13 3) rfl rfl (one_of HT_.out (by kernel_rfl)) (by decide) (fun K hK => ?_)
   refine Kd.S_append_step k43 (w0 := w4) w.heap.size (by rfl) (.tmp 27) (.tmp 34) 22 43 (.agg #[.string ⟨#[]⟩, .slice none 0 0]) 40 rfl Try.underlying22 infoSt rfl (by decide) (by decide) (.slice Av Li.length cv) Li x [.string x.f0, .slice A4 x.f1.length c4] (fun k => k ≠ gh) (fun k => some k = (Value.slice A4 x.f1.length c4).ownBlock) rfl rfl ?aP ?aK ?aF ?aO (Below.refl _ _) ?aS ?aL ?_
   case aP => exact k43_mkM _ _ _ x (Kd.R_tight rfl (Kd.R_lower HR4.out HB2.out.size))
   case aK =>
    exact fun k hk => by
     have hge := Kd.R_base HR4.out k hk.symm
     have h3 := blk_lt HG2.out
     refine ⟨fun e => by omega, fun e => ?_⟩
     have := Kd.S_lt HS2.out k e.symm
     omega
   case aF =>
    exact fun k hk => by
     have h3 := blk_lt HG2.out
     have := HB34.out.size
     omega
   case aO =>
    exact Kd.S_mono HS4.out (fun k hk => ⟨hk.1, fun e => by have := Kd.R_base HR4.out k e.symm; have := hk.2.2.1; omega⟩)
   case aS => exact HB4.out.size
   case aL => have := HTL.out; omega
   intro v6 w6 ho6 hb6 hg6 _
   rw [← HEX.out] at ho6
   obtain ⟨A6, c6, e6⟩ := Kd.S_slice ho6
   subst e6
   have HS6 := Aside0.mk ho6
   have hng : some gh ≠ (Value.slice Av Li.length cv).ownBlock := fun e => HS2.out.choose_spec.1 gh e.symm rfl
   have hnb : some bs ≠ (Value.slice Av Li.length cv).ownBlock := fun e => by have := HVB.out bs e.symm; omega
   have HB6 : Aside0 (Below w.heap.size w w6) := ⟨HB4.out.grown hg6 HB4.out.size (fun k hk => Kd.S_base HS2.out k hk)⟩
   clear ho6 hb6
   refine hK.out _ _ ⟨(blkG HG4.out hg6 hng), (blkG HL4.out hg6 hnb)⟩ (fun hHeld => ?_)
   clear hK K
   refine norm_ (a' := ?_) ?_ ?_
   rotate_left
   ·show Act.put _ (some 35) _ = _
    simp only [Act.put, List.setIfInBounds_toArray, List.set_cons_zero, List.set_cons_succ, i64_w, i32_w]
    rfl
   refine pure_ (i := 13) (N := some 36) (v := ?_) (a' := ?_) (tf 14 2) rfl rfl (any_of HT_.out (by kernel_rfl)) (fun _ _ _ h => h) (Or.inl ⟨by rfl, ?_⟩) ?_ ?_
   rotate_left
   ·intro w'
    go_simp
    with_reducible rfl
   rotate_left
   ·simp only [Act.put, List.setIfInBounds_toArray, List.set_cons_zero, List.set_cons_succ, i64_w, i32_w]
    rfl
   refine pure_ (i := 14) (N := some 37) (v := ?_) (a' := ?_) (tf 15 1) rfl rfl (any_of HT_.out (by kernel_rfl)) (fun _ _ _ h => h) (Or.inl ⟨by rfl, ?_⟩) ?_ ?_
   rotate_left
   ·intro w'
    go_simp
    with_reducible rfl
   rotate_left
   ·simp only [Act.put, List.setIfInBounds_toArray, List.set_cons_zero, List.set_cons_succ, i64_w, i32_w]
    rfl
   refine last_ (i := 15) (N := none) (tf 16 0) rfl rfl (one_of HT_.out (by kernel_rfl)) (by decide) (fun K hK => ?_)
   obtain ⟨y0, y1, y2, y3, z0, z1, z2, z3⟩ := bk4 hHeld.1
   have HG6 := Aside0.mk hHeld.1
   refine skip_ (w1 := ?_) (by rfl) rfl ?_ ?_
   rotate_left
   ·go_simp
    rfl
   refine hK.out _ _ ?_
   clear hK K
   refine done_ (done_of HT_.out (by kernel_rfl)) ?_
   have HG9 : Aside0 ((w6.setCell ⟨gh, 0, none⟩ (.slice A6 Lj.length c6)).heap[gh]? = some (.cells #[.slice A6 Lj.length c6, .slice none 0 0, .slice none 0 0, .int .i64 0] 127 (0, 0))) := ⟨blk_put HG6.out 0 _ rfl⟩
   have HS9 := Aside0.mk (Kd.S_far HS6.out (p := ⟨gh, 0, none⟩) (fun k hk => hk) (.slice A6 Lj.length c6))
   have HB9 := Aside0.mk (below_set (g := gh) (j := 0) (v := .slice A6 Lj.length c6) HB6.out HGE.out)
   clear HG6 HS6 HB6
   generalize w6.setCell ⟨gh, 0, none⟩ (.slice A6 Lj.length c6) = w9 at HG9 HS9 HB9 ⊢
   go_wp2
   go_roundw
   case rel => exact ⟨i + 1, _, by go_num, by omega, HB9, HG9, ⟨by rw [← HLJ.out]; exact HS9.out⟩⟩
   case measure => simp [intOf]; omega
  ·have hie : i = l0.length := by omega
   have hS := HS.out
   rw [hie, List.take_length] at hS
   have HS3 := Aside0.mk hS
   clear hS hie HS
   go_wp2
   go_ret
   refine ⟨gh, rfl, ⟨v, .slice none 0 0, .slice none 0 0, fun k => k ≠ gh ∧ w.heap.size ≤ k ∧ k < wr.heap.size, fun _ => False, fun _ => False, ⟨HG.out, HGE.out, S_toV (Kd.S_mono (Kd.S_bound HS3.out) (fun k hk => ⟨hk.1, hk.2.1, hk.2.2.1⟩)), Kd.S_nil _ _ _ _ _, Kd.R_nil _ _ _ _ _, fun k hk => ⟨hk.1, fun h_ => h_, fun h_ => h_, hk.2.2⟩, fun k hk => hk.elim, fun k hk => hk.elim⟩, fun k hk => ?_⟩, HB.out⟩
   rcases hk with hk | hk | hk | hk
   ·exact ⟨by rw [hk]; exact HGE.out, by rw [hk]; exact blk_lt HG.out⟩
   ·exact ⟨hk.2.1, hk.2.2⟩
   ·exact hk.elim
   ·exact hk.elim
end Go.Proofs.Ytonmlncejikbiaa.Q
/- A store's links, Open, Of and Reach: by hand; drawn regions are written by wip/tool/genS.py. -/
namespace Go.Proofs.Ytonmlncejikbiaa.Q
open Go.RowKit Go.Proofs.YtonmlncejikbiaaW.PrintWords Go.Proofs.YtonmlncejikbiaaW.PrintLast Go.Proofs.YtonmlncejikbiaaW.PrintMore
set_option linter.unusedVariables false
set_option linter.unusedSimpArgs false
open Go.Maps (Keyed)
/-- What objects are, by structs. -/
structure OkT (S : List S43) (L : List (Int × Int × List Int)) : Prop where
 len : L.length ≤ 131072
 all : ∀ x ∈ L, 0 ≤ x.1 ∧ x.1 < (S.length : Int) ∧ x.2.2.length = (rd_T43 S x.1).f1.length
theorem rdS_mem {L : List (Int × Int × List Int)} {i : Nat} (h1 : i < L.length) : rdS L (i : Int) ∈ L := by
 unfold rdS
 rw [Int.toNat_natCast, getD_at _ _ h1]
 exact List.getElem_mem h1
def ofS (S : List S43) (L : List (Int × Int × List Int)) (o : Int) : ByteArray := if isSt L o = true then (rd_T43 S (rdS L (o - 1)).1).f0 else ⟨#[]⟩
theorem map_take_next (ks : List Int) (F : List Int) {j : Nat} (hj : j < ks.length) : (ks.take (j + 1)).map (fun k => rd F k) = (ks.take j).map (fun k => rd F k) ++ [rd F (rd ks (j : Int))] := by
 rw [take_nextI ks 0 hj, List.map_append, List.map_singleton]
 unfold rd
 rw [Int.toNat_natCast]
def store_links.T3 : Bool × List (List Nat × List Nat) := (true, [([], []), ([0], [0]), ([1], [1]), ([2], [2]), ([], []), ([4], [4]), ([3, 5], [3, 5]), ([6], [6]), ([7], [7]), ([8], [8]), ([], [])])
def store_links.B3 : List Nat := [0, 1, 3, 7, 0, 16, 63, 127, 255, 511, 0]
theorem store_links.tab3 : rtab .any (opsOf Try.f91 3) = store_links.T3 := by kernel_rfl
theorem store_links.bits3 : waitsOk store_links.T3.2 store_links.B3 = true := by kernel_rfl
section
variable {base g : Nat} {w : World} {S : List S43} {L : List (Int × Int × List Int)} {F0 : List Bool} {T : Nat → Prop}
set_option maxRecDepth 100000 in
set_option maxHeartbeats 8000000 in
theorem store_links.calls (k : Nat) (n : Nat) (x : Int × Int × List Int) (y : S43) (ks : List Int) (h : SP w base g S L F0 T) (hk : OkT S L) (hn : n < L.length) (hx : x = rdS L (n : Int)) (hy : y = rd_T43 S x.1) (hks : kind_Links.f k y.f0 y.f1 = some ks) (hin : ∀ q ∈ ks, 0 ≤ q ∧ q < (y.f1.length : Int)) (hkl : ks.length ≤ 1000000) :
  Calls Try.prog 91 #[ptr g, .int .i64 ((n : Int) + 1)] w fun e w' => ∃ v0, e = .returned v0 ∧ (Kd.int .i64).R 3 w' w.heap.size (fun _ => True) v0 (ks.map fun q => rd x.2.2 q) ∧ Below w.heap.size w w' := by
 obtain ⟨sv, lv, fv, sok, lok, fok, h, -⟩ := h
 have e1 : (n : Int) + 1 - 1 = n := by omega
 obtain ⟨o0, o1, o2⟩ := hk.all _ (rdS_mem hn)
 rw [← hx] at o0 o1 o2
 rw [← hy] at o2
 obtain ⟨m, hm⟩ : ∃ m : Nat, x.1 = m := ⟨x.1.toNat, by omega⟩
 rw [hm] at o1 hy
 obtain ⟨F, hF⟩ : ∃ F, F = x.2.2 := ⟨_, rfl⟩
 obtain ⟨fr, hfr⟩ : ∃ fr, fr = x.2.1 := ⟨_, rfl⟩
 rw [← hF] at o2 ⊢
 obtain ⟨ad, cl, A1, c1', rfl, hcl, q1, q1b, q2, _, q4⟩ := h.elem (n : Int) (by omega) (by omega)
 obtain ⟨_, _, _, _, hmx⟩ := h.list
 simp only [Int.toNat_natCast] at q1 q1b q2
 rw [← hx, hm] at q1
 rw [← hx, ← hfr] at q1b
 rw [← hx, ← hF] at q2 q4
 have HFC0 := Aside0.mk q4
 obtain ⟨c0, c1, _, _, _, _, _, _⟩ := bk4 h.blk
 obtain ⟨As, cs, rfl, _, hC⟩ := h.structs
 obtain ⟨sd, B1, d1, e2, s0, s1, hld, hCd⟩ := at_T43 hC (m : Int) (by omega) (by omega)
 subst e2
 simp only [Int.toNat_natCast] at s0 s1
 rw [← hy] at s0 s1 hld hCd
 have hw : IntKind.i64.wrap ((n : Int) + 1 - 1) = n := by rw [e1, IntKind.wrap_i64]; omega
 have hsm := Kd.C_max hC
 have HFM := Aside0.mk (Kd.C_max q4)
 have HDC := Aside0.mk hCd; have HLD := Aside0.mk hld; have HBK := Aside0.mk h.blk
 have HKS := Aside0.mk hks; have HIN := Aside0.mk hin; have HO2 := Aside0.mk o2; have HKL := Aside0.mk hkl
 clear h hx hy hm hF hfr hk o0 o2 hks hin hkl q4 hC hCd hld
 go_enter Try.func91, Try.ntmps91
 go_upto_region 3 with (fail)
 have HL2 : Aside0 ((w.alloc (.cells #[.int .i64 m, .int .i64 fr, .slice A1 F.length c1'] 129)).heap[w.heap.size]? = some (.cells #[.int .i64 m, .int .i64 fr, .slice A1 F.length c1'] 129 (0, 0))) := ⟨blk_new _ _⟩
 have HBA : Aside0 (Below w.heap.size w (w.alloc (.cells #[.int .i64 m, .int .i64 fr, .slice A1 F.length c1'] 129))) := ⟨below_alloc (Below.refl _ _) _⟩
 generalize w.alloc (.cells #[.int .i64 m, .int .i64 fr, .slice A1 F.length c1'] 129) = wa at HL2 HBA ⊢
 have HBE : Aside0 (w.heap.size ≤ w.heap.size) := ⟨Nat.le_refl _⟩
 have HB2 := Aside0.mk (below_drew1 HBA.out)
 have HG2 := Aside0.mk (blk_drew (blk_below HBK.out HBA.out))
 have HL3 := Aside0.mk (blk_drew HL2.out)
 have HDC2 := Aside0.mk (Kd.C_drew (Kd.C_below HDC.out HBA.out))
 have HS0 := Aside0.mk (pw_cell_below (below_drew1 HBA.out) s0)
 have HS1 := Aside0.mk (pw_cell_below (below_drew1 HBA.out) s1)
 have hml : (m : Int) < (S.length : Int) := o1
 clear c0 c1 q1 q1b q2 s0 s1 HBK HL2 HDC HBA
 obtain ⟨bs, hbs⟩ : ∃ bs, bs = w.heap.size := ⟨_, rfl⟩
 rw [← hbs] at HL3 ⊢
 have HBSE := Aside0.mk hbs; clear hbs
 refine start_ (n := 11) (S := fun w' => w'.heap[g]? = some (.cells #[.slice (some sd) S.length cs, .slice (some ad) L.length cl, fv, .int .i64 (frN L)] 127 (0, 0)) ∧ w'.heap[bs]? = some (.cells #[.int .i64 m, .int .i64 fr, .slice A1 F.length c1'] 129 (0, 0)) ∧ w'.cell? (sd.add (m * 2)) = some (.string y.f0) ∧ w'.cell? ⟨(sd.add (m * 2)).block, (sd.add (m * 2)).off + 1, none⟩ = some (.slice B1 y.f1.length d1)) (ds := []) (tf 0 11) (by kernel_rfl) rfl rfl ⟨HG2.out, HL3.out, HS0.out, HS1.out⟩ (fun hHeld => ?_)
 refine with_tabW store_links.tab3 store_links.bits3 (fun HT_ HW_ => ?_)
 generalize wa.drew = w3 at HB2 HG2 HDC2 HL3 HS0 HS1 hHeld ⊢
 refine pure_ (i := 0) (N := some 17) (v := ?_) (a' := ?_) (tf 1 10) rfl rfl (any_of HT_.out (by kernel_rfl)) (fun _ _ _ h => h) (Or.inl ⟨by rfl, ?_⟩) ?_ ?_
 rotate_left
 ·intro w'
  go_simp
  with_reducible rfl
 rotate_left
 ·simp only [Act.put, List.setIfInBounds_toArray, List.set_cons_zero, List.set_cons_succ, i64_w, i32_w]
  rfl
 refine pure_ (i := 1) (N := some 18) (v := ?_) (a' := ?_) (tf 2 9) rfl rfl (any_of HT_.out (by kernel_rfl)) (fun _ _ _ h => h) (Or.inl ⟨by rfl, ?_⟩) ?_ ?_
 rotate_left
 ·intro w'
  go_simp
  with_reducible rfl
 rotate_left
 ·simp only [Act.put, List.setIfInBounds_toArray, List.set_cons_zero, List.set_cons_succ, i64_w, i32_w]
  rfl
 refine pure_ (i := 2) (N := some 19) (v := ?_) (a' := ?_) (tf 3 8) rfl rfl (any_of HT_.out (by kernel_rfl)) (fun _ _ _ h => h) (Or.inl ⟨by rfl, ?_⟩) ?_ ?_
 rotate_left
 ·intro w'
  go_simp
  with_reducible rfl
 rotate_left
 ·simp only [Act.put, List.setIfInBounds_toArray, List.set_cons_zero, List.set_cons_succ, i64_w, i32_w]
  rfl
 refine pure_ (i := 4) (N := some 21) (v := ?_) (a' := ?_) #[true, true, true, false, true, false, false, false, false, false, false] rfl rfl (any_of HT_.out (by kernel_rfl)) (fun _ _ _ h => h) (Or.inl ⟨by rfl, ?_⟩) ?_ ?_
 rotate_left
 ·intro w'
  go_simp
  with_reducible rfl
 rotate_left
 ·simp only [Act.put, List.setIfInBounds_toArray, List.set_cons_zero, List.set_cons_succ, i64_w, i32_w]
  rfl
 refine pure_ (i := 10) (N := some 27) (v := ?_) (a' := ?_) #[true, true, true, false, true, false, false, false, false, false, true] rfl rfl (any_of HT_.out (by kernel_rfl)) (fun _ _ _ h => h) (Or.inl ⟨by rfl, ?_⟩) ?_ ?_
 rotate_left
 ·intro w'
  go_simp
  with_reducible rfl
 rotate_left
 ·simp only [Act.put, List.setIfInBounds_toArray, List.set_cons_zero, List.set_cons_succ, i64_w, i32_w]
  rfl
 refine take_ (i := 3) (N := some 20) (v := ?_) (a' := ?_) #[true, true, true, true, true, false, false, false, false, false, true] rfl rfl (take_ofW HT_.out HW_.out (by kernel_rfl)) (fun _ _ _ h => h) (Or.inl ⟨by rfl, ?_⟩) hHeld ?_ ?_
 rotate_left
 ·rintro w' ⟨s0, s1, s2, s3⟩
  obtain ⟨c0, c1, _, _, _, _, _, _⟩ := bk4 s0
  obtain ⟨b0, b1, b2, _, _, _⟩ := bk3 s1
  go_simp
  with_reducible rfl
 rotate_left
 ·simp only [Act.put, List.setIfInBounds_toArray, List.set_cons_zero, List.set_cons_succ, i64_w, i32_w]
  rfl
 refine take_ (i := 5) (N := some 22) (v := ?_) (a' := ?_) #[true, true, true, true, true, true, false, false, false, false, true] rfl rfl (take_ofW HT_.out HW_.out (by kernel_rfl)) (fun _ _ _ h => h) (Or.inl ⟨by rfl, ?_⟩) hHeld ?_ ?_
 rotate_left
 ·rintro w' ⟨s0, s1, s2, s3⟩
  obtain ⟨c0, c1, _, _, _, _, _, _⟩ := bk4 s0
  obtain ⟨b0, b1, b2, _, _, _⟩ := bk3 s1
  go_simp
  with_reducible rfl
 rotate_left
 ·simp only [Act.put, List.setIfInBounds_toArray, List.set_cons_zero, List.set_cons_succ, i64_w, i32_w]
  rfl
 refine pure_ (i := 6) (N := some 23) (v := ?_) (a' := ?_) #[true, true, true, true, true, true, true, false, false, false, true] rfl rfl (any_of HT_.out (by kernel_rfl)) (fun _ _ _ h => h) (Or.inl ⟨by rfl, ?_⟩) ?_ ?_
 rotate_left
 ·intro w'
  go_simp
  with_reducible rfl
 rotate_left
 ·simp only [Act.put, List.setIfInBounds_toArray, List.set_cons_zero, List.set_cons_succ, i64_w, i32_w]
  rfl
 refine take_ (i := 7) (N := some 24) (v := ?_) (a' := ?_) #[true, true, true, true, true, true, true, true, false, false, true] rfl rfl (take_ofW HT_.out HW_.out (by kernel_rfl)) (fun _ _ _ h => h) (Or.inl ⟨by rfl, ?_⟩) hHeld ?_ ?_
 rotate_left
 ·rintro w' ⟨s0, s1, s2, s3⟩
  go_simp
  with_reducible rfl
 rotate_left
 ·simp only [Act.put, List.setIfInBounds_toArray, List.set_cons_zero, List.set_cons_succ, i64_w, i32_w]
  rfl
 refine one_ (i := 8) (N := some 25) #[true, true, true, true, true, true, true, true, true, false, true] rfl rfl (one_of HT_.out (by kernel_rfl)) (by decide) (fun K hK => ?_)
 refine goes_ Try.func26 (by kernel_rfl) rfl #[.agg #[.string y.f0, .slice B1 y.f1.length d1]] (by rfl) rfl rfl (by simp only [List.map_toArray, List.map_cons, List.map_nil]; rfl) ?_
 refine (kind_Links.calls k y.f0 B1 d1 y.f1 ks w3 HDC2.out HLD.out HKS.out).mono ?_
 rintro e w4 ⟨v9, rfl, hr9, hb9⟩
 refine ⟨_, rfl, ?_⟩
 obtain ⟨A9, c9, e9⟩ := Kd.R_slice hr9
 subst e9
 have HK9 : Aside0 ((Kd.int .i64).R 3 w4 w.heap.size (fun k => some k = (Value.slice A9 ks.length c9).ownBlock) (.slice A9 ks.length c9) ks) := ⟨Kd.R_tight rfl (Kd.R_lower hr9 HB2.out.size)⟩
 have HB9 := Aside0.mk (below_step HB2.out hb9)
 have HL9 := Aside0.mk (blkB hHeld.2.1 hb9)
 clear hr9
 refine hK.out _ _ ⟨(blkB hHeld.1 hb9), (blkB hHeld.2.1 hb9), (pw_cell_below hb9 hHeld.2.2.1), (pw_cell_below hb9 hHeld.2.2.2)⟩ (fun hHeld => ?_)
 clear hK K
 refine norm_ (a' := ?_) ?_ ?_
 rotate_left
 ·show Act.put _ (some 25) _ = _
  simp only [Act.put, List.setIfInBounds_toArray, List.set_cons_zero, List.set_cons_succ, i64_w, i32_w]
  rfl
 refine pure_ (i := 9) (N := some 26) (v := ?_) (a' := ?_) (tf 11 0) rfl rfl (any_of HT_.out (by kernel_rfl)) (fun _ _ _ h => h) (Or.inl ⟨by rfl, ?_⟩) ?_ ?_
 rotate_left
 ·intro w'
  go_simp
  with_reducible rfl
 rotate_left
 ·simp only [Act.put, List.setIfInBounds_toArray, List.set_cons_zero, List.set_cons_succ, i64_w, i32_w]
  rfl
 refine done_ (done_of HT_.out (by kernel_rfl)) ?_
 have hkm : ks.length ≤ 9223372036854775807 := by have := HKL.out; omega
 go_wp2_with fail
 go_loopw [6, 8, 27] (fun v6 _ v27 wr => ∃ (j : Nat), v27 = .int .i64 j ∧ j ≤ ks.length ∧ Aside0 (Below w.heap.size w wr) ∧ Aside0 (wr.heap[bs]? = some (.cells #[.int .i64 m, .int .i64 fr, .slice A1 F.length c1'] 129 (0, 0))) ∧ Aside0 ((Kd.int .i64).R 3 wr w.heap.size (fun k => some k = (Value.slice A9 ks.length c9).ownBlock) (.slice A9 ks.length c9) ks) ∧ Aside0 ((Kd.int .i64).R 3 wr w.heap.size (fun k => some k ≠ (Value.slice A9 ks.length c9).ownBlock) v6 ((ks.take j).map fun q => rd F q))) (fun _ _ v27 _ => ks.length - (intOf v27).toNat)
 case atStart => exact ⟨0, rfl, Nat.zero_le _, HB9, HL9, HK9, ⟨by rw [List.take_zero]; exact Kd.R_nil _ _ _ _ _⟩⟩
 case round =>
  clear HB9 HL9 HK9
  obtain ⟨j, rfl, hj, HBr, HLr, HKr, HOr⟩ := hrel
  by_cases hlt : j < ks.length
  ·obtain ⟨q, hq⟩ : ∃ q, q = rd ks (j : Int) := ⟨_, rfl⟩
   have hqm : q ∈ ks := by
    rw [hq]; unfold rd
    rw [Int.toNat_natCast, getD_at _ _ hlt]
    exact List.getElem_mem _
   obtain ⟨hq0, hq1⟩ := HIN.out q hqm
   have hnext := map_take_next ks F hlt
   rw [← hq] at hnext
   obtain ⟨p, rfl⟩ : ∃ p : Nat, q = p := ⟨q.toNat, by omega⟩
   have hpF : p < F.length := by have := HO2.out; omega
   obtain ⟨ak, eak, hkc⟩ := Kd.at_int (Kd.R_reads' HKr.out).2.2 (j : Int) (by omega) (by omega)
   subst eak
   simp only [Int.toNat_natCast] at hkc
   rw [← hq] at hkc
   obtain ⟨b0, b1, b2, _, _, _⟩ := bk3 HLr.out
   obtain ⟨af, eaf, hfc⟩ := Kd.at_int (Kd.C_below HFC0.out HBr.out) (p : Int) (by omega) (by omega)
   subst eaf
   simp only [Int.toNat_natCast] at hfc
   obtain ⟨z, hz⟩ : ∃ z, z = rd F (p : Int) := ⟨_, rfl⟩
   rw [← hz] at hfc hnext
   obtain ⟨Nj, hNj⟩ : ∃ Nj, Nj = (ks.take j).map fun q => rd F q := ⟨_, rfl⟩
   have hnl : Nj.length ≤ 1000000 := by rw [hNj, List.length_map, List.length_take]; have := HKL.out; omega
   rw [← hNj] at HOr hnext
   have HYES := Aside0.mk hnext; have HNL := Aside0.mk hnl
   have hfm := HFM.out
   obtain ⟨Ao, co, eo⟩ := Kd.R_slice HOr.out
   subst eo
   clear hqm hq hz hNj hnl hnext
   go_wp2_with (at_builtin; refine Kd.R_append (Kd.int .i64) (w0 := w) w.heap.size rfl (.tmp 31) (.tmp 37) 45 3 (.int .i64 0) 8 rfl Try.underlying45 infoIn rfl (by decide) (by decide) _ Nj z [.int .i64 z] (fun k => some k ≠ (Value.slice (some ak) ks.length c9).ownBlock) (fun _ => False) rfl rfl ?aP (fun _ hk => hk.elim) ?aF HOr.out HBr.out HBr.out.size ?aL ?_)
   case aP => exact rfl
   case aF => intro k_ hk_ e_; have := Kd.R_lt HKr.out k_ e_.symm; omega
   case aL => have := HNL.out; omega
   intro v8 w8 hq8 hb8 hg8 _
   have hne9 : ∀ k, (Value.slice Ao Nj.length co).ownBlock = some k → some k ≠ (Value.slice (some ak) ks.length c9).ownBlock := fun k hk => HOr.out.1 k hk
   have HB8 := Aside0.mk hb8
   have HL8 := Aside0.mk (blkG HLr.out hg8 (Kd.R_ne HOr.out HLr.out (by decide)))
   have HK8 := Aside0.mk (Kd.R_grown HKr.out hg8 (fun k hk e => hne9 k e.symm hk))
   have HO8 : Aside0 ((Kd.int .i64).R 3 w8 w.heap.size (fun k => some k ≠ (Value.slice (some ak) ks.length c9).ownBlock) v8 ((ks.take (j + 1)).map fun q => rd F q)) := ⟨by rw [HYES.out]; exact hq8⟩
   clear hq8 hb8 hg8 HBr HLr HKr HOr b0 b1 b2 hfc hkc
   go_wp2
   go_roundw
   case rel => exact ⟨j + 1, by go_num, by omega, HB8, HL8, HK8, HO8⟩
   case measure => simp [intOf]; omega
  ·have hje : j = ks.length := by omega
   have hO := HOr.out
   rw [hje, List.take_length] at hO
   have HO1 := Aside0.mk hO
   clear hO hje HOr
   go_wp2
   go_ret
   exact ⟨_, rfl, Kd.R_mono HO1.out (fun _ _ => trivial), HBr.out⟩
set_option maxRecDepth 100000 in
set_option maxHeartbeats 2000000 in
theorem store_Of.nil (obj : Int) (w : World) : Calls Try.prog 55 #[.pointer none, .int .i64 obj] w fun e w' => e = .returned (.string ⟨#[]⟩) ∧ Below w.heap.size w w' := by
 have HC := Aside0.mk (store_is.nil obj w)
 go_enter Try.func55, Try.ntmps55
 go_wp2_with fail
 refine HC.out.mono ?_
 rintro e w1 ⟨rfl, hb⟩
 have HB := Aside0.mk hb; clear hb
 go_wp2
 go_ret
 exact ⟨rfl, HB.out⟩
set_option maxRecDepth 100000 in
set_option maxHeartbeats 4000000 in
theorem store_Of.calls (obj : Int) (h : SP w base g S L F0 T) (hk : OkT S L) :
  Calls Try.prog 55 #[ptr g, .int .i64 obj] w fun e w' => e = .returned (.string (ofS S L obj)) ∧ Below w.heap.size w w' := by
 have hc := store_is.calls obj h
 obtain ⟨sv, lv, fv, sok, lok, fok, h, -⟩ := h
 unfold ofS
 cases ho : isSt L obj with
 | false =>
  rw [ho] at hc
  rw [if_neg (by decide)]
  have HC := Aside0.mk hc
  clear hc h ho
  go_enter Try.func55, Try.ntmps55
  go_wp2_with fail
  refine HC.out.mono ?_
  rintro e w1 ⟨rfl, hb⟩
  have HB := Aside0.mk hb; clear hb
  go_wp2
  go_ret
  exact ⟨rfl, HB.out⟩
 | true =>
  rw [ho] at hc
  rw [if_pos rfl]
  obtain ⟨n, rfl, hn⟩ := isSt_at ho
  have e1 : (n : Int) + 1 - 1 = n := by omega
  rw [e1]
  obtain ⟨x, hx⟩ : ∃ x, x = rdS L (n : Int) := ⟨_, rfl⟩
  obtain ⟨o0, o1, _⟩ := hk.all _ (rdS_mem hn)
  rw [← hx] at o0 o1 ⊢
  obtain ⟨m, hm⟩ : ∃ m : Nat, x.1 = m := ⟨x.1.toNat, by omega⟩
  rw [hm] at o1 ⊢
  obtain ⟨y, hy⟩ : ∃ y, y = rd_T43 S (m : Int) := ⟨_, rfl⟩
  rw [← hy]
  have H := Aside0.mk h; have HC := Aside0.mk hc; have HX := Aside0.mk hx; have HY := Aside0.mk hy; have HM := Aside0.mk hm
  clear h hc hx hy hm hk ho o0
  go_enter Try.func55, Try.ntmps55
  go_wp2_with fail
  refine HC.out.mono ?_
  rintro e w1 ⟨rfl, hb⟩
  have HB := Aside0.mk hb
  have h1 := H.out.below hb
  clear hb H HC
  obtain ⟨c0, c1, _, _, _, _, _, _⟩ := bk4 h1.blk
  obtain ⟨ad, cl, A1, c1', rfl, hcl, q1, q1b, q2, q3, q4⟩ := h1.elem (n : Int) (by omega) (by omega)
  obtain ⟨_, _, _, _, hmx⟩ := h1.list
  simp only [Int.toNat_natCast] at q1
  rw [← HX.out, HM.out] at q1
  obtain ⟨As, cs, rfl, _, hC⟩ := h1.structs
  obtain ⟨sd, B1, d1, e2, s0, s1, _, _⟩ := at_T43 hC (m : Int) (by omega) (by omega)
  subst e2
  simp only [Int.toNat_natCast] at s0 s1
  rw [← HY.out] at s0
  have hw : IntKind.i64.wrap ((n : Int) + 1 - 1) = n := by rw [e1, IntKind.wrap_i64]; omega
  have hsm := Kd.C_max hC
  have hml : (m : Int) < (S.length : Int) := o1
  have hnl : (n : Int) < (L.length : Int) := by omega
  clear h1 q1b q2 q3 q4 s1 hC HX HY HM
  go_wp2_with fail
  go_quiet (fail)
  go_wp2
  go_ret
  exact ⟨rfl, by first | exact HB.out | exact pw_below_drewN HB.out _⟩
set_option maxRecDepth 100000 in
set_option maxHeartbeats 2000000 in
theorem store_Open.nil (w : World) : Calls Try.prog 58 #[.pointer none] w fun e w' => e = .returned (.slice none 0 0) ∧ Below w.heap.size w w' := by
 go_enter Try.func58, Try.ntmps58
 go_wp2
 go_ret
 exact ⟨rfl, Below.refl _ _⟩
set_option maxRecDepth 100000 in
set_option maxHeartbeats 8000000 in
theorem store_Open.calls (h : SP w base g S L F0 T) (hF : F0.length ≤ 1000000) :
  Calls Try.prog 58 #[ptr g] w fun e w' => ∃ v0, e = .returned v0 ∧ (Kd.int .i64).R 3 w' w.heap.size (fun _ => True) v0 (openTo F0 F0.length) ∧ Below w.heap.size w w' := by
 obtain ⟨sv, lv, fv, sok, lok, fok, h, -⟩ := h
 obtain ⟨A, c, rfl, hc, hm, hC⟩ := h.frames
 obtain ⟨_, _, c2, _, _, _, _, _⟩ := bk4 h.blk
 have HC := Aside0.mk hC
 clear h hC
 go_enter Try.func58, Try.ntmps58
 go_wp2_with fail
 go_loopw [3, 4, 5, 13] (fun v3 _ _ v13 wr => ∃ j : Nat, v13 = .int .i64 j ∧ j ≤ F0.length ∧ Aside0 (Below w.heap.size w wr) ∧ Aside0 ((Kd.int .i64).R 3 wr w.heap.size (fun _ => True) v3 (openTo F0 j))) (fun _ _ _ v13 _ => F0.length - (intOf v13).toNat)
 case atStart => exact ⟨0, rfl, Nat.zero_le _, ⟨Below.refl _ _⟩, ⟨Kd.R_nil _ _ _ _ _⟩⟩
 case round =>
  clear c2
  obtain ⟨j, rfl, hj, HBr, HOr⟩ := hrel
  by_cases hlt : j < F0.length
  ·obtain ⟨ak, eak, hkc⟩ := Kd.at_bool (Kd.C_below HC.out HBr.out) (j : Int) (by omega) (by omega)
   subst eak
   simp only [Int.toNat_natCast] at hkc
   have hnx := openTo_next F0 j
   have hrb : rdOf false F0 (j : Int) = F0.getD j false := by unfold rdOf; rw [Int.toNat_natCast]
   rw [hrb] at hkc
   obtain ⟨Aq, cq, eq⟩ := Kd.R_slice HOr.out
   subst eq
   cases hb : F0.getD j false with
   | false =>
    rw [hb] at hkc
    rw [hb, if_neg (by decide), List.append_nil] at hnx
    have HNX := Aside0.mk hnx
    clear hnx hb hrb
    go_wp2
    go_roundw
    case rel => exact ⟨j + 1, by go_num, by omega, HBr, ⟨by rw [HNX.out]; exact HOr.out⟩⟩
    case measure => simp [intOf]; omega
   | true =>
    rw [hb] at hkc
    rw [hb, if_pos rfl] at hnx
    obtain ⟨Oj, hOj⟩ : ∃ Oj, Oj = openTo F0 j := ⟨_, rfl⟩
    have hol : Oj.length ≤ 1000000 := by rw [hOj]; have := openTo_len F0 j; omega
    rw [← hOj] at HOr hnx
    have HNX := Aside0.mk hnx; have HOL := Aside0.mk hol
    have hwp : IntKind.i64.wrap ((j : Int) + 1) = (j : Int) + 1 := by rw [IntKind.wrap_i64]; omega
    rw [← hOj]
    clear hnx hb hrb hOj hol
    go_wp2_with (at_builtin; refine Kd.R_append (Kd.int .i64) (w0 := w) w.heap.size rfl (.tmp 19) (.tmp 22) 45 3 (.int .i64 0) 8 rfl Try.underlying45 infoIn rfl (by decide) (by decide) _ Oj ((j : Int) + 1) [.int .i64 ((j : Int) + 1)] (fun _ => True) (fun _ => False) rfl rfl ?aP (fun _ hk => hk.elim) (fun _ _ => trivial) HOr.out HBr.out HBr.out.size ?aL ?_)
    case aP => exact rfl
    case aL => have := HOL.out; omega
    intro v8 w8 hq8 hb8 hg8 _
    have HB8 := Aside0.mk hb8
    have HO8 : Aside0 ((Kd.int .i64).R 3 w8 w.heap.size (fun _ => True) v8 (openTo F0 (j + 1))) := ⟨by rw [HNX.out]; exact hq8⟩
    clear hq8 hb8 hg8 HBr HOr hkc
    go_wp2
    go_roundw
    case rel => exact ⟨j + 1, by go_num, by omega, HB8, HO8⟩
    case measure => simp [intOf]; omega
  ·have hje : j = F0.length := by omega
   have hO := HOr.out
   rw [hje] at hO
   have HO1 := Aside0.mk hO
   clear hO hje HOr
   go_wp2
   go_ret
   exact ⟨_, rfl, HO1.out, HBr.out⟩
end
set_option maxRecDepth 100000 in
set_option maxHeartbeats 8000000 in
theorem store_Reach.any (pv : Value) (isF fr : Int → Bool) (near : Int → Option (List Int)) (k : Nat) (A0 : Option Addr) (c0 : Nat) (l0 out : List Int) (w : World)
  (his : ∀ w' x, Below w.heap.size w w' → Calls Try.prog 89 #[pv, .int .i64 x] w' fun e w2 => e = .returned (.bool (isF x)) ∧ Below w'.heap.size w' w2)
  (hfr : ∀ w' x, Below w.heap.size w w' → isF x = true → Calls Try.prog 90 #[pv, .int .i64 x] w' fun e w2 => e = .returned (.bool (fr x)) ∧ Below w'.heap.size w' w2)
  (hzr : ∀ x, fr x = true → near x = some [])
  (hne : ∀ w' x ns, Below w.heap.size w w' → isF x = true → fr x = false → near x = some ns → Calls Try.prog 91 #[pv, .int .i64 x] w' fun e w2 => ∃ v0, e = .returned v0 ∧ (Kd.int .i64).R 3 w2 w'.heap.size (fun _ => True) v0 ns ∧ Below w'.heap.size w' w2)
  (hsm : ∀ x, isF x = true → 1 ≤ x ∧ x ≤ 1099511627776)
  (hr0 : (Kd.int .i64).C w A0 l0.length l0) (hc0 : l0.length ≤ c0) (hl : l0.length ≤ 1000000) (h : reachQ isF near k l0 [] = some out) (hol : out.length < LIMR) :
  Calls Try.prog 59 #[pv, .slice A0 l0.length c0] w fun e w' => ∃ v0, e = .returned v0 ∧ (Kd.int .i64).R 3 w' w.heap.size (fun _ => True) v0 (out.mergeSort fun x y => decide (x ≤ y)) ∧ Below w.heap.size w w' := by
 have HIS := Aside0.mk his; have HNE := Aside0.mk hne; have HFR := Aside0.mk hfr; have HZR := Aside0.mk hzr; have HSM := Aside0.mk hsm; have HR0 := Aside0.mk hr0; have HC0 := Aside0.mk hc0; have HLL := Aside0.mk hl; have HQ := Aside0.mk h; have HOL := Aside0.mk hol
 clear his hne hfr hzr hsm hr0 hc0 hl h hol
 have hmm := @run_makeMap Try.prog
 go_enter Try.func59, Try.ntmps59
 go_wp2_with fail
 have HB1 : Aside0 (Below w.heap.size w (w.alloc (.map #[] 0))) := ⟨below_alloc (Below.refl _ _) _⟩
 have HS1 : Aside0 (SetAt (w.alloc (.map #[] 0)) Try.prog 3 4 w.heap.size (([] : List Int).map ik)) := ⟨SetAt.made w _ _ _⟩
 generalize w.alloc (.map #[] 0) = w1 at HB1 HS1 ⊢
 refine (slices_Clone_int_int.calls A0 c0 l0 l0 w1 (Kd.C_below HR0.out HB1.out) HC0.out (if_pos HLL.out)).mono ?_
 rintro e w2 ⟨vt, rfl, hrt, hb2⟩
 have HB2 := Aside0.mk (below_step HB1.out hb2)
 have HS2 := Aside0.mk (SetAt.below HS1.out hb2)
 have HT2 : Aside0 ((Kd.int .i64).R 3 w2 w.heap.size (fun k => True ∧ some k ≠ (Value.slice none 0 0).ownBlock) vt l0) := ⟨Kd.R_mono (Kd.R_lower hrt HB1.out.size) (fun k _ => ⟨trivial, by simp [Value.ownBlock]⟩)⟩
 clear hrt hb2 HB1 HS1 hmm
 go_wp2_with fail
 go_loopg [6, 7, 8] k (fun kq v6 v7 _ wr => ∃ todo ou : List Int, Aside0 (reachQ isF near kq todo ou = some out) ∧ Aside0 ((Kd.int .i64).R 3 wr w.heap.size (fun k => True ∧ some k ≠ v7.ownBlock) v6 todo) ∧ Aside0 ((Kd.int .i64).R 3 wr w.heap.size (fun _ => True) v7 ou) ∧ Aside0 (SetAt wr Try.prog 3 4 w.heap.size (ou.map ik)) ∧ Aside0 (Below w.heap.size w wr))
 case atStart => exact ⟨l0, [], HQ, HT2, ⟨Kd.R_nil _ _ _ _ _⟩, HS2, HB2⟩
 case round =>
  clear HQ HT2 HS2 HB2
  obtain ⟨todo, ou, HQ, HT, HO, HS, HB⟩ := hrel
  cases gk with
  | zero => exact absurd HQ.out (by simp [reachQ])
  | succ kq =>
  obtain ⟨A, c, rfl, hc, hC⟩ := Kd.R_reads HT.out
  have htm := Kd.C_max hC
  by_cases hp : 0 < todo.length
  ·have hq := HQ.out
   unfold reachQ at hq
   rw [if_pos hp] at hq
   obtain ⟨m, hm⟩ : ∃ m, todo.length = m + 1 := ⟨todo.length - 1, by omega⟩
   have em : todo.length - 1 = m := by omega
   rw [em] at hq
   obtain ⟨x, hx⟩ : ∃ x, x = rd todo (m : Int) := ⟨_, rfl⟩
   obtain ⟨tk, htk⟩ : ∃ tk, tk = todo.take m := ⟨_, rfl⟩
   rw [← hx, ← htk] at hq
   obtain ⟨ad, ea, hcell⟩ := Kd.at_int hC (m : Int) (by omega) (by omega)
   subst ea
   simp only [Int.toNat_natCast] at hcell
   rw [← hx] at hcell
   obtain ⟨hcut, hR3⟩ := cut_stack (P := Try.prog) (t := 45) (e := 3) Try.underlying45 (by kernel_rfl) HT.out rfl hc hp
   rw [em, ← htk] at hR3
   rw [em] at hcut
   have hwr : IntKind.i64.wrap ((todo.length : Int) - 1) = (m : Int) := by rw [IntKind.wrap_i64]; omega
   have hcut2 : ∀ W : World, (Instr.slice 45 (.slice (some ad) todo.length c) none (some (.int .i64 (m : Int))) none).run Try.prog W = .ok (.slice (some ad) m c) W := fun W => by
    have := hcut W
    rwa [show ((todo.length : Int) - 1) = (m : Int) by omega] at this
   have htkl : tk.length = m := by rw [htk, List.length_take]; omega
   have HTK := Aside0.mk htkl
   have HR3 := Aside0.mk hR3
   have hml : (m : Int) < (todo.length : Int) := by omega
   have HM := Aside0.mk hm
   have HQ1 := Aside0.mk hq
   have hd0 : decide (0 < (todo.length : Int)) = true := decide_eq_true (by omega)
   clear hC hq hx htk hR3 hcut hc HT HQ htkl em hm hp
   go_wp2_with fail
   refine (HIS.out wr x HB.out).mono ?_
   rintro e w3 ⟨rfl, hb3⟩
   have HB3 := Aside0.mk (below_step HB.out hb3)
   have HT3 := Aside0.mk (Kd.R_below HR3.out hb3)
   have HO3 := Aside0.mk (Kd.R_below HO.out hb3)
   have HS3 := Aside0.mk (SetAt.below HS.out hb3)
   clear hb3 HB HR3 HO HS hcell hcut2
   cases hix : isF x with
   | false =>
    have hq1 := HQ1.out
    rw [if_neg (fun hh => by rw [hix] at hh; exact absurd hh.1 (by decide))] at hq1
    have HQ2 := Aside0.mk hq1
    clear hq1 HQ1 hix
    go_wp2
    go_roundg kq
    case rel => exact ⟨tk, ou, HQ2, ⟨by have h := HT3.out; exact h⟩, HO3, HS3, HB3⟩
    case measure => omega
   | true =>
    obtain ⟨hx1, hx2⟩ := HSM.out x hix
    have hwf := wf_small hx1 hx2
    have hlk : (Instr.lookup 121 (.map (some w.heap.size)) (.int .i64 x) false).run Try.prog w3 = .ok (.bool (ou.contains x)) w3 := by
     rw [← ik_has]
     exact SetAt.lookup HS3.out (Go.Maps.int_keyed Try.underlying3) Try.underlying121 Try.underlying4 (zeroBo w3) (Go.Maps.keyOf_int_mk Try.underlying3 hwf) trivial
    cases hcx : ou.contains x with
    | true =>
     rw [hcx] at hlk
     have hq1 := HQ1.out
     rw [if_neg (fun hh => by rw [hcx] at hh; exact absurd hh.2 (by decide))] at hq1
     have HQ2 := Aside0.mk hq1
     clear hq1 HQ1 hix hcx hwf hx1 hx2
     go_wp2
     go_roundg kq
     case rel => exact ⟨tk, ou, HQ2, ⟨by have h := HT3.out; exact h⟩, HO3, HS3, HB3⟩
     case measure => omega
    | false =>
     rw [hcx] at hlk
     have hq1 := HQ1.out
     rw [if_pos ⟨hix, hcx⟩] at hq1
     obtain ⟨ns, hns, hq1⟩ := Option.bind_eq_some_iff.mp hq1
     by_cases hlim : todo.length + ns.length < LIMR ∧ ou.length < LIMR
     case neg => rw [if_neg hlim] at hq1; cases hq1
     rw [if_pos hlim] at hq1
     have HQ2 := Aside0.mk hq1; have HNS := Aside0.mk hns; have HLIM := Aside0.mk hlim; have HIX := Aside0.mk hix
     have hkey : keyOf Try.prog 3 (.int .i64 x) = some (ik x) := Go.Maps.keyOf_int_mk Try.underlying3 hwf
     have HKEY := Aside0.mk hkey
     clear hq1 HQ1 hix hcx hwf hx1 hx2 hns hlim hkey
     go_wp2_with (at_mapUpdate; refine SetAt.update_op HS3.out rfl (.tmp 35) (.tmp 36) (.const (.bool true)) rfl (Go.Maps.int_keyed Try.underlying3) Try.underlying121 Try.underlying4 rfl ?hn (.int .i64 x) (ik x) rfl rfl HKEY.out trivial ?_)
     case hn => rw [List.length_map]; have := HLIM.out.2; unfold LIMR at this; unfold maxLen; omega
     intro w4 hs4 hg4
     have HB4 : Aside0 (Below w.heap.size w w4) := ⟨HB3.out.grown hg4 HB3.out.size (fun j hj => by injection hj with hj; omega)⟩
     have hneT : ∀ {α : Type} {d : Kd α} {okx : Nat → Prop} {vx : Value} {xs : List α}, d.R 3 w3 w.heap.size okx vx xs → ∀ k, vx.ownBlock = some k → k ≠ w.heap.size := fun hR k hk e => (SetAt.ne_own HS3.out (Kd.Q_of_R hR)) (by rw [hk, e])
     have HT4 : Aside0 ((Kd.int .i64).R 3 w4 w.heap.size (fun k => True ∧ some k ≠ u7.ownBlock) (.slice (some ad) m c) tk) := ⟨Kd.R_mono (Kd.R_grown (Kd.R_tight2 rfl HT3.out) hg4 (fun k hk e => hneT HT3.out k hk.1.symm (by injection e))) (fun k hk => hk.2)⟩
     have HO4 : Aside0 ((Kd.int .i64).R 3 w4 w.heap.size (fun _ => True) u7 ou) := ⟨Kd.R_mono (Kd.R_grown (Kd.R_tight rfl HO3.out) hg4 (fun k hk e => hneT HO3.out k hk.symm (by injection e))) (fun _ _ => trivial)⟩
     have HS4 : Aside0 (SetAt w4 Try.prog 3 4 w.heap.size ((ik x) :: ou.map ik)) := ⟨hs4⟩
     clear hs4 hg4 hlk hneT HS3 HT3 HO3 HB3 HKEY
     obtain ⟨Ao, co, eo⟩ := Kd.R_slice HO4.out
     subst eo
     go_wp2_with (at_builtin; refine Kd.R_append (Kd.int .i64) (w0 := w) w.heap.size rfl (.tmp 37) (.tmp 39) 45 3 (.int .i64 0) 8 rfl Try.underlying45 infoIn rfl (by decide) (by decide) _ ou x [.int .i64 x] (fun _ => True) (fun _ => False) rfl rfl ?aP (fun _ hk => hk.elim) ?aF HO4.out HB4.out HB4.out.size ?aL ?_)
     case aP => exact rfl
     case aF => exact fun _ _ => trivial
     case aL => have := HLIM.out.2; unfold LIMR at this; omega
     intro v5 w5 hq5 hb5 hg5 hat5
     have HB5 := Aside0.mk hb5
     have HO5 := Aside0.mk hq5
     have HT5 := Aside0.mk (Kd.R_after HT4.out hg5 hat5)
     have HS5 := Aside0.mk (SetAt.kept HS4.out hg5 (SetAt.ne_own HS4.out (Kd.Q_of_R HO4.out)))
     clear hq5 hb5 hg5 hat5 HT4 HO4 HS4 HB4
     have hfc := HFR.out w5 x HB5.out HIX.out
     cases hfx : fr x with
     | true =>
      rw [hfx] at hfc
      have hns0 : ns = [] := Option.some.inj (HNS.out.symm.trans (HZR.out x hfx))
      subst hns0
      have HFC := Aside0.mk hfc
      clear hfc hfx
      go_wp2_with fail
      refine HFC.out.mono ?_
      rintro e w6 ⟨rfl, hb6⟩
      have HB6 := Aside0.mk (below_step HB5.out hb6)
      have HT6 := Aside0.mk (Kd.R_below HT5.out hb6)
      have HO6 := Aside0.mk (Kd.R_below HO5.out hb6)
      have HS6 := Aside0.mk (SetAt.below HS5.out hb6)
      clear hb6 HT5 HO5 HS5 HB5 HFC
      have HS7 : Aside0 (SetAt w6 Try.prog 3 4 w.heap.size ((ou ++ [x]).map ik)) := ⟨set_perm HS6.out (by simp [or_comm]) (by simp)⟩
      have HT7 : Aside0 ((Kd.int .i64).R 3 w6 w.heap.size (fun k => True ∧ some k ≠ v5.ownBlock) (.slice (some ad) m c) (tk ++ [])) := ⟨by rw [List.append_nil]; exact HT6.out⟩
      go_wp2
      go_roundg kq
      case rel => exact ⟨tk ++ [], ou ++ [x], HQ2, HT7, HO6, HS7, HB6⟩
      case measure => omega
     | false =>
      rw [hfx] at hfc
      have HFC := Aside0.mk hfc; have HFX := Aside0.mk hfx
      clear hfc hfx
      go_wp2_with fail
      refine HFC.out.mono ?_
      rintro e w5b ⟨rfl, hb6⟩
      have HB5b := Aside0.mk (below_step HB5.out hb6)
      have HT5b := Aside0.mk (Kd.R_below HT5.out hb6)
      have HO5b := Aside0.mk (Kd.R_below HO5.out hb6)
      have HS5b := Aside0.mk (SetAt.below HS5.out hb6)
      clear hb6 HT5 HO5 HS5 HB5 HFC
      go_wp2_with fail
      refine (HNE.out w5b x ns HB5b.out HIX.out HFX.out HNS.out).mono ?_
      rintro e w6 ⟨vn, rfl, hrn, hb6⟩
      have HB6 := Aside0.mk (below_step HB5b.out hb6)
      have HT6 := Aside0.mk (Kd.R_below HT5b.out hb6)
      have HO6 := Aside0.mk (Kd.R_below HO5b.out hb6)
      have HS6 := Aside0.mk (SetAt.below HS5b.out hb6)
      obtain ⟨An, cn, rfl, hcn, hCn⟩ := Kd.R_reads hrn
      have HCN := Aside0.mk hCn
      clear hrn hb6 hCn HT5b HO5b HS5b HB5b
      go_wp2_with (at_builtin; refine Kd.R_append_row (Value.int .i64) (0 : Int) (w0 := w) w.heap.size rfl (.tmp 45) (.tmp 48) 45 3 (.int .i64 0) 8 rfl Try.underlying45 infoIn rfl (by decide) _ tk ns An ns.length cn (fun k => True ∧ some k ≠ v5.ownBlock) rfl rfl ?bF HT6.out HCN.out HB6.out HB6.out.size ?bL ?_)
      case bF => exact fun k hk => ⟨trivial, fun e => by have := Kd.R_lt HO6.out k e.symm; omega⟩
      case bL => have := HLIM.out.1; have := HTK.out; have := HM.out; unfold LIMR at *; omega
      intro v7 w7 hq7 hb7 hg7 hat7
      have HB7 := Aside0.mk hb7
      have HT7 : Aside0 ((Kd.int .i64).R 3 w7 w.heap.size (fun k => True ∧ some k ≠ v5.ownBlock) v7 (tk ++ ns)) := ⟨Kd.R_mono hq7 (fun k hk => ⟨trivial, by simpa using hk⟩)⟩
      have HO7 : Aside0 ((Kd.int .i64).R 3 w7 w.heap.size (fun _ => True) v5 (ou ++ [x])) := ⟨Kd.R_mono (Kd.R_grown (Kd.R_tight rfl HO6.out) hg7 (fun k hk e => (HT6.out.1 k e.symm).2 hk)) (fun _ _ => trivial)⟩
      have HS7a := Aside0.mk (SetAt.kept HS6.out hg7 (SetAt.ne_own HS6.out (Kd.Q_of_R HT6.out)))
      clear hq7 hb7 hg7 hat7 HT6 HO6 HS6 HB6 HCN
      have HS7 : Aside0 (SetAt w7 Try.prog 3 4 w.heap.size ((ou ++ [x]).map ik)) := ⟨set_perm HS7a.out (by simp [or_comm]) (by simp)⟩
      go_wp2
      go_roundg kq
      case rel => exact ⟨tk ++ ns, ou ++ [x], HQ2, HT7, HO7, HS7, HB7⟩
      case measure => omega
  ·have hq := HQ.out
   unfold reachQ at hq
   rw [if_neg hp] at hq
   obtain rfl := Option.some.inj hq
   have h0 : todo.length = 0 := by omega
   clear hq HQ hC hc HT HS
   rw [h0]
   clear h0 hp htm
   go_wp2_with fail
   refine (sort_R HO.out (by have := HOL.out; unfold LIMR at this; omega)).mono ?_
   rintro e w3 ⟨rfl, hR3, hg3⟩
   have HR3 := Aside0.mk hR3
   have HB3 := Aside0.mk (Below.grown HB.out hg3 HB.out.size (fun k hk => Kd.R_base HO.out k hk))
   clear hR3 hg3
   go_wp2
   go_ret
   exact ⟨_, rfl, HR3.out, HB3.out⟩
end Go.Proofs.Ytonmlncejikbiaa.Q
/- The anchor of chapter 12: by hand. -/
namespace Go.Proofs.Ytonmlncejikbiaa.Q
open Go.RowKit Go.Proofs.YtonmlncejikbiaaW.PrintWords Go.Proofs.YtonmlncejikbiaaW.PrintLast Go.Proofs.YtonmlncejikbiaaW.PrintMore
set_option linter.unusedVariables false
set_option linter.unusedSimpArgs false
/-- A store, wherever its blocks lie. -/
def SX (w : World) (base g : Nat) (S : List S43) (L : List (Int × Int × List Int)) (F : List Bool) : Prop := ∃ T, SP w base g S L F T
theorem SX.below {base g : Nat} {w w1 : World} {S : List S43} {L : List (Int × Int × List Int)} {F : List Bool} (h : SX w base g S L F) (hb : Below w.heap.size w w1) : SX w1 base g S L F := by
 obtain ⟨T, h⟩ := h
 exact ⟨T, h.below hb⟩
def sU : S43 := ⟨⟨#[84]⟩, [⟨⟨#[116]⟩, ⟨#[42, 84]⟩⟩]⟩
theorem bw_check : kind_Check.f 40 [sU] = some (0, 0) := by kernel_rfl
theorem bw_links : kind_Links.f 40 sU.f0 sU.f1 = some [0] := by kernel_rfl
theorem bw_sF : ∀ x ∈ [sU], x.f1.length ≤ 1000000 := fun x hx => by rw [List.mem_singleton.mp hx]; decide
def M1a : List (Int × Int × List Int) := [(0, 1, [0])]
def M2a : List (Int × Int × List Int) := [(0, 1, [0]), (0, 0, [0])]
def M3a : List (Int × Int × List Int) := [(0, 1, [0]), (0, 0, [1])]
theorem bw_ok : OkT [sU] M3a := ⟨by decide, fun x hx => by
 have h : x = (0, 1, [0]) ∨ x = (0, 0, [1]) := by simpa [M3a] using hx
 rcases h with rfl | rfl
 ·exact ⟨by decide, by decide, by kernel_rfl⟩
 ·exact ⟨by decide, by decide, by kernel_rfl⟩⟩
def nearB (x : Int) : Option (List Int) := if x = 2 then some [1] else some []
theorem bw_reach : reachQ (isSt M3a) nearB 20 [2] [] = some [2, 1] := by kernel_rfl
theorem bw_sorted : [2, 1].mergeSort (fun x y : Int => decide (x ≤ y)) = [1, 2] := by
 have h1 := List.mergeSort_perm [2, 1] (fun x y : Int => decide (x ≤ y))
 have h2 : ([2, 1].mergeSort (fun x y : Int => decide (x ≤ y))).Pairwise (fun x y => decide (x ≤ y) = true) := List.pairwise_mergeSort (fun a b c h1 h2 => by simp at *; omega) (fun a b => by simp; omega) _
 have h3 : List.Perm ([2, 1].mergeSort (fun x y : Int => decide (x ≤ y))) [1, 2] := h1.trans (List.Perm.swap _ _ _)
 exact List.Perm.eq_of_pairwise (fun a b _ _ h1 h2 => by simp at h1 h2; omega) h2 (by decide) h3
section
variable {base g : Nat} {w : World}
theorem bw_enter (h : SX w base g [sU] [] []) : Calls Try.prog 54 #[ptr g] w fun e w' => e = .returned (.int .i64 1) ∧ SX w' base g [sU] [] [true] ∧ Below base w w' := by
 obtain ⟨T, h⟩ := h
 refine (store_Enter.calls h (by decide)).mono ?_
 rintro e w' ⟨rfl, h1, _, h2⟩
 exact ⟨rfl, ⟨_, h1⟩, h2⟩
theorem bw_make (f : Int) (L L' : List (Int × Int × List Int)) (F : List Bool) (a b : Int) (h : SX w base g [sU] L F) (hL : L.length ≤ 131072) (e1 : mkSN [sU] L F ⟨#[84]⟩ f = a) (e2 : mkSE [sU] L F ⟨#[84]⟩ f = b) (e3 : mkSL [sU] L F ⟨#[84]⟩ f = L') : Calls Try.prog 50 #[ptr g, .string ⟨#[84]⟩, .int .i64 f] w fun e w' => e = .returned (.tuple #[.int .i64 a, .int .i64 b]) ∧ SX w' base g [sU] L' F ∧ Below base w w' := by
 obtain ⟨T, h⟩ := h
 refine (store_Make.calls ⟨#[84]⟩ f h hL bw_sF).mono ?_
 rintro e w' ⟨rfl, h1, _, h2⟩
 rw [e1, e2]
 rw [e3] at h1
 exact ⟨rfl, ⟨_, h1⟩, h2⟩
theorem bw_set (h : SX w base g [sU] M2a [true]) : Calls Try.prog 52 #[ptr g, .int .i64 2, .int .i64 0, .int .i64 1] w fun e w' => e = .returned (.int .i64 0) ∧ SX w' base g [sU] M3a [true] ∧ Below base w w' := by
 obtain ⟨T, h⟩ := h
 refine (store_Set.calls 2 0 1 h).mono ?_
 rintro e w' ⟨rfl, h1, _, h2⟩
 rw [show chkS M2a [true] 2 0 = 0 by kernel_rfl]
 rw [show setS M2a [true] 2 0 1 = M3a by kernel_rfl] at h1
 exact ⟨rfl, ⟨_, h1⟩, h2⟩
theorem bw_leave (F F' : List Bool) (b : Int) (h : SX w base g [sU] M3a F) (e1 : leaveE F 1 = b) (e2 : leaveF F 1 = F') : Calls Try.prog 53 #[ptr g, .int .i64 1] w fun e w' => e = .returned (.int .i64 b) ∧ SX w' base g [sU] M3a F' ∧ Below base w w' := by
 obtain ⟨T, h⟩ := h
 refine (store_Leave.calls 1 h).mono ?_
 rintro e w' ⟨rfl, h1, _, h2⟩
 rw [e1]
 rw [e2] at h1
 exact ⟨rfl, ⟨_, h1⟩, h2⟩
theorem bw_get (o f a b : Int) (h : SX w base g [sU] M3a [false]) (ea : getS M3a [false] o f = a) (eb : chkS M3a [false] o f = b) : Calls Try.prog 51 #[ptr g, .int .i64 o, .int .i64 f] w fun e w' => e = .returned (.tuple #[.int .i64 a, .int .i64 b]) ∧ Below w.heap.size w w' := by
 obtain ⟨T, h⟩ := h
 have h1 := store_Get.calls o f h
 rw [ea, eb] at h1
 exact h1
theorem bw_frame (o a : Int) (h : SX w base g [sU] M3a [false]) (e : frameS M3a o = a) : Calls Try.prog 56 #[ptr g, .int .i64 o] w fun e w' => e = .returned (.int .i64 a) ∧ Below w.heap.size w w' := by
 obtain ⟨T, h⟩ := h
 have h1 := store_Frame.calls o h
 rw [e] at h1
 exact h1
theorem bw_made (b : Bool) (a : Int) (h : SX w base g [sU] M3a [false]) (e : madeS M3a b = a) : Calls Try.prog 57 #[ptr g, .bool b] w fun e w' => e = .returned (.int .i64 a) ∧ Below w.heap.size w w' := by
 obtain ⟨T, h⟩ := h
 have h1 := store_Made.calls b h
 rw [e] at h1
 exact h1
theorem bw_of (h : SX w base g [sU] M3a [false]) : Calls Try.prog 55 #[ptr g, .int .i64 2] w fun e w' => e = .returned (.string ⟨#[84]⟩) ∧ Below w.heap.size w w' := by
 obtain ⟨T, h⟩ := h
 have h1 := store_Of.calls 2 h bw_ok
 rw [show ofS [sU] M3a 2 = ⟨#[84]⟩ by kernel_rfl] at h1
 exact h1
theorem bw_open (h : SX w base g [sU] M3a [false]) : Calls Try.prog 58 #[ptr g] w fun e w' => ∃ A c, e = .returned (.slice A 0 c) ∧ Below w.heap.size w w' := by
 obtain ⟨T, h⟩ := h
 refine (store_Open.calls h (by decide)).mono ?_
 rintro e w' ⟨v0, rfl, h1, h2⟩
 obtain ⟨A, c, rfl⟩ := Kd.R_slice h1
 exact ⟨A, c, rfl, h2⟩
theorem bw_rea (A0 : Option Addr) (c0 : Nat) (h : SX w base g [sU] M3a [false]) (hr0 : (Kd.int .i64).C w A0 1 [2]) (hc0 : 1 ≤ c0) : Calls Try.prog 59 #[ptr g, .slice A0 1 c0] w fun e w' => ∃ A c, e = .returned (.slice A 2 c) ∧ Below w.heap.size w w' := by
 obtain ⟨T, h⟩ := h
 have h1 := store_Reach.any (ptr g) (isSt M3a) (freedO M3a [false]) nearB 20 A0 c0 [2] [2, 1] w (fun w' x hb => store_is.calls x (h.below hb)) (fun w' x hb hx => by
  obtain ⟨n, rfl, hn⟩ := isSt_at hx
  exact store_isFreed.calls n (h.below hb) hn) (fun x hx => by
  unfold nearB
  by_cases e : x = 2
  ·subst e; cases hx
  ·rw [if_neg e]) (fun w' x ns hb hx hf hn => by
  have e : x = 2 := by
   have := of_decide_eq_true hx
   have e : M3a.length = 2 := rfl
   rw [e] at this
   by_cases e1 : x = 1
   ·subst e1; cases hf
   ·omega
  subst e
  have hn : some [1] = some ns := hn
  obtain rfl := Option.some.inj hn
  exact store_links.calls 40 1 (0, 0, [1]) sU [0] (h.below hb) bw_ok (by decide) rfl rfl bw_links (fun q hq => by rw [List.mem_singleton.mp hq]; decide) (by decide)) (fun x hx => by
  have := of_decide_eq_true hx
  have e : M3a.length = 2 := rfl
  rw [e] at this
  omega) hr0 hc0 (by decide) bw_reach (by decide)
 rw [bw_sorted] at h1
 refine h1.mono ?_
 rintro e w' ⟨v0, rfl, h1, h2⟩
 obtain ⟨A, c, rfl⟩ := Kd.R_slice h1
 exact ⟨A, c, rfl, h2⟩
end
theorem sU_row (w : World) : Kd.C k43 ((w.alloc (.cells #[.string ⟨#[116]⟩, .string ⟨#[42, 84]⟩] 48)).alloc (.cells #[.string ⟨#[84]⟩, .slice (some ⟨w.heap.size, 0, none⟩) 1 1] 43)) (some ⟨w.heap.size + 1, 0, none⟩) 1 [sU] := by
 have hf := lit_R k48 (W := w) w.heap.size 48 (xs := sU.f1) (inner := [.string ⟨#[116]⟩, .string ⟨#[42, 84]⟩]) (ok := fun _ => True) (okp := fun _ => True) (Reps.c2 ⟨[.string ⟨#[116]⟩], [.string ⟨#[42, 84]⟩], rfl, rfl, rfl⟩ (Reps.none _ _)) (fun _ h => h) trivial (Nat.le_refl _) (by decide)
 have e1 : (w.alloc (.cells #[.string ⟨#[116]⟩, .string ⟨#[42, 84]⟩] 48)).heap.size = w.heap.size + 1 := World.size_alloc _ _
 have hs := lit_R k43 (W := w.alloc (.cells #[.string ⟨#[116]⟩, .string ⟨#[42, 84]⟩] 48)) w.heap.size 43 (xs := [sU]) (inner := [.string ⟨#[84]⟩, .slice (some ⟨w.heap.size, 0, none⟩) 1 1]) (ok := fun _ => True) (okp := fun _ => True) (Reps.c2 (k43_mkM _ _ _ sU hf) (Reps.none _ _)) (fun _ h => h) trivial (by omega) (by decide)
 rw [e1] at hs
 exact (Kd.R_reads' hs).2.2
theorem r2_row (w : World) : (Kd.int .i64).C (w.alloc (.cells #[.int .i64 2] 3)) (some ⟨w.heap.size, 0, none⟩) 1 [2] :=
 (Kd.R_reads' (lit_R (Kd.int .i64) (W := w) w.heap.size 3 (xs := [2]) (inner := [.int .i64 2]) (ok := fun _ => True) (okp := fun _ => True) (Reps.one rfl (Reps.none _ _)) (fun _ h => h) trivial (Nat.le_refl _) (by decide))).2.2
def truantlaw12_awake.f : Option (Bool) := some true
set_option maxRecDepth 100000 in
set_option maxHeartbeats 8000000 in
theorem truantlaw12_awake.calls (r : Bool) (w : World) (h : truantlaw12_awake.f = some r) :
  Calls Try.prog 47 #[] w fun e w' => e = .returned (.bool r) ∧ Below w.heap.size w w' := by
 obtain rfl := Option.some.inj h
 clear h
 have HC0 := Aside0.mk (sU_row w)
 go_enter Try.func47, Try.ntmps47
 go_wp2_with fail
 have e1 : (w.alloc (.cells #[.string ⟨#[116]⟩, .string ⟨#[42, 84]⟩] 48)).heap.size = w.heap.size + 1 := World.size_alloc _ _
 have HBa : Aside0 (Below w.heap.size w ((w.alloc (.cells #[.string ⟨#[116]⟩, .string ⟨#[42, 84]⟩] 48)).alloc (.cells #[.string ⟨#[84]⟩, .slice (some ⟨w.heap.size, 0, none⟩) 1 1] 43))) := ⟨below_alloc (below_alloc (Below.refl _ _) _) _⟩
 try rw [e1]
 refine (store_New.calls 40 (some ⟨w.heap.size + 1, 0, none⟩) 1 [sU] 0 _ HC0.out (Nat.le_refl _) bw_check (by decide) bw_sF).mono ?_
 rintro e w1 ⟨g, rfl, hp1, hb1⟩
 have HB1 := Aside0.mk (below_step HBa.out hb1)
 have HW := Aside0.mk HBa.out.size
 have H1 := Aside0.mk (show SX _ _ _ _ _ _ from ⟨_, hp1⟩)
 clear hp1 hb1 HC0 HBa e1
 generalize ((w.alloc (.cells #[.string ⟨#[116]⟩, .string ⟨#[42, 84]⟩] 48)).alloc (.cells #[.string ⟨#[84]⟩, .slice (some ⟨w.heap.size, 0, none⟩) 1 1] 43)).heap.size = base at H1 HW
 go_wp2_with fail
 refine (bw_enter H1.out).mono ?_
 rintro e w2 ⟨rfl, h2, hb2⟩
 have HB2 := Aside0.mk (HB1.out.trans (hb2.mono HW.out)); have H2 := Aside0.mk h2
 clear h2 hb2 H1 HB1
 go_wp2_with fail
 refine (bw_make 1 [] M1a [true] 1 0 H2.out (by decide) (by kernel_rfl) (by kernel_rfl) (by kernel_rfl)).mono ?_
 rintro e w3 ⟨rfl, h3, hb3⟩
 have HB3 := Aside0.mk (HB2.out.trans (hb3.mono HW.out)); have H3 := Aside0.mk h3
 clear h3 hb3 H2 HB2
 go_wp2_with fail
 refine (bw_make 0 M1a M2a [true] 2 0 H3.out (by decide) (by kernel_rfl) (by kernel_rfl) (by kernel_rfl)).mono ?_
 rintro e w4 ⟨rfl, h4, hb4⟩
 have HB4 := Aside0.mk (HB3.out.trans (hb4.mono HW.out)); have H4 := Aside0.mk h4
 clear h4 hb4 H3 HB3
 go_wp2_with fail
 refine (bw_set H4.out).mono ?_
 rintro e w5 ⟨rfl, h5, hb5⟩
 have HB5 := Aside0.mk (HB4.out.trans (hb5.mono HW.out)); have H5 := Aside0.mk h5
 clear h5 hb5 H4 HB4
 go_wp2_with fail
 refine (bw_leave [true] [false] 0 H5.out (by kernel_rfl) (by kernel_rfl)).mono ?_
 rintro e w6 ⟨rfl, h6, hb6⟩
 have HB6 := Aside0.mk (HB5.out.trans (hb6.mono HW.out)); have H6 := Aside0.mk h6
 clear h6 hb6 H5 HB5
 go_wp2_with fail
 refine (bw_get 1 0 0 14 H6.out (by kernel_rfl) (by kernel_rfl)).mono ?_
 rintro e w7 ⟨rfl, hb7⟩
 have HB7 := Aside0.mk (below_step HB6.out hb7); have H7 := Aside0.mk (H6.out.below hb7)
 clear hb7 H6 HB6
 go_wp2_with fail
 refine (bw_get 2 0 1 0 H7.out (by kernel_rfl) (by kernel_rfl)).mono ?_
 rintro e w8 ⟨rfl, hb8⟩
 have HB8 := Aside0.mk (below_step HB7.out hb8); have H8 := Aside0.mk (H7.out.below hb8)
 clear hb8 H7 HB7
 go_wp2_with fail
 refine (bw_make 1 M3a M3a [false] 0 13 H8.out (by decide) (by kernel_rfl) (by kernel_rfl) (by kernel_rfl)).mono ?_
 rintro e w9 ⟨rfl, h9, hb9⟩
 have HB9 := Aside0.mk (HB8.out.trans (hb9.mono HW.out)); have H9 := Aside0.mk h9
 clear h9 hb9 H8 HB8
 go_wp2_with fail
 have hba : Below w9.heap.size w9 (w9.alloc (.cells #[.int .i64 2] 3)) := below_alloc (Below.refl _ _) _
 refine (bw_rea _ 1 (H9.out.below hba) (r2_row w9) (Nat.le_refl _)).mono ?_
 rintro e wa ⟨Aa, ca, rfl, hb⟩
 have HBa := Aside0.mk (below_step (below_step HB9.out hba) hb); have Ha := Aside0.mk ((H9.out.below hba).below hb)
 clear hb hba H9 HB9
 go_wp2_with fail
 refine (bw_leave [false] [false] 13 Ha.out (by kernel_rfl) (by kernel_rfl)).mono ?_
 rintro e wb ⟨rfl, hh, hb⟩
 have HBb := Aside0.mk (HBa.out.trans (hb.mono HW.out)); have Hb := Aside0.mk hh
 clear hh hb Ha HBa
 go_wp2_with fail
 refine (bw_frame 1 1 Hb.out (by kernel_rfl)).mono ?_
 rintro e wc ⟨rfl, hb⟩
 have HBc := Aside0.mk (below_step HBb.out hb); have Hc := Aside0.mk (Hb.out.below hb)
 clear hb Hb HBb
 go_wp2_with fail
 refine (bw_frame 2 0 Hc.out (by kernel_rfl)).mono ?_
 rintro e wd ⟨rfl, hb⟩
 have HBd := Aside0.mk (below_step HBc.out hb); have Hd := Aside0.mk (Hc.out.below hb)
 clear hb Hc HBc
 go_wp2_with fail
 refine (bw_frame 3 (-1) Hd.out (by kernel_rfl)).mono ?_
 rintro e we ⟨rfl, hb⟩
 have HBe := Aside0.mk (below_step HBd.out hb); have He := Aside0.mk (Hd.out.below hb)
 clear hb Hd HBd
 go_wp2_with fail
 refine (bw_made true 1 He.out (by kernel_rfl)).mono ?_
 rintro e wf ⟨rfl, hb⟩
 have HBf := Aside0.mk (below_step HBe.out hb); have Hf := Aside0.mk (He.out.below hb)
 clear hb He HBe
 go_wp2_with fail
 refine (bw_made false 1 Hf.out (by kernel_rfl)).mono ?_
 rintro e wg ⟨rfl, hb⟩
 have HBg := Aside0.mk (below_step HBf.out hb); have Hg := Aside0.mk (Hf.out.below hb)
 clear hb Hf HBf
 go_wp2_with fail
 refine (bw_open Hg.out).mono ?_
 rintro e wh ⟨Ah, ch, rfl, hb⟩
 have HBh := Aside0.mk (below_step HBg.out hb); have Hh := Aside0.mk (Hg.out.below hb)
 clear hb Hg HBg
 go_wp2_with fail
 refine (bw_of Hh.out).mono ?_
 rintro e wi ⟨rfl, hb⟩
 have HBi := Aside0.mk (below_step HBh.out hb)
 clear hb Hh HBh
 go_wp2
 go_ret
 exact ⟨rfl, HBi.out⟩
section
variable {α : Type}
theorem Ev.pos {c : Prop} [Decidable c] {A B : Nat → Option α} {r : α} (h : c) (k : Ev A r) : Ev (fun n => if c then A n else B n) r := Ev.congr (fun n => if_pos h) k
theorem Ev.neg {c : Prop} [Decidable c] {A B : Nat → Option α} {r : α} (h : ¬ c) (k : Ev B r) : Ev (fun n => if c then A n else B n) r := Ev.congr (fun n => if_neg h) k
theorem Ev.one {β : Type} {a : Option β} {b : β} {f : Nat → β → Option α} {r : α} (h : a = some b) (k : Ev (fun n => f n b) r) : Ev (fun n => a.bind (f n)) r := Ev.congr (fun n => by rw [h]; rfl) k
theorem Ev.eq {g : Nat → Option α} {r r' : α} (k : Ev g r) (h : r = r') : Ev g r' := h ▸ k
end
/-- How many are not seen yet. -/
def unseen (U out : List Int) : Nat := (U.filter fun x => !out.contains x).length
theorem unseen_le (U out : List Int) : unseen U out ≤ U.length := List.length_filter_le _ _
theorem unseen_mono (x : Int) (out : List Int) : ∀ U, unseen U (out ++ [x]) ≤ unseen U out
 | [] => Nat.le_refl _
 | a :: U => by
  have ih := unseen_mono x out U
  unfold unseen at ih ⊢
  by_cases h1 : out.contains a = true
  ·have h2 : (out ++ [x]).contains a = true := by rw [List.contains_iff_mem] at h1 ⊢; exact List.mem_append_left _ h1
   rw [List.filter_cons_of_neg (p := fun x => !out.contains x) (by rw [h1]; decide), List.filter_cons_of_neg (p := fun y => !(out ++ [x]).contains y) (by rw [h2]; decide)]
   exact ih
  ·have h1' : out.contains a = false := by simpa using h1
   rw [List.filter_cons_of_pos (p := fun x => !out.contains x) (by rw [h1']; rfl)]
   by_cases h2 : (out ++ [x]).contains a = true
   ·rw [List.filter_cons_of_neg (p := fun y => !(out ++ [x]).contains y) (by rw [h2]; decide), List.length_cons]; omega
   ·have h2' : (out ++ [x]).contains a = false := by simpa using h2
    rw [List.filter_cons_of_pos (p := fun y => !(out ++ [x]).contains y) (by rw [h2']; rfl), List.length_cons, List.length_cons]; omega
theorem unseen_lt (x : Int) (out : List Int) (hx : out.contains x = false) : ∀ U, x ∈ U → unseen U (out ++ [x]) + 1 ≤ unseen U out
 | [], h => by cases h
 | a :: U, h => by
  by_cases e : a = x
  ·subst e
   have h2 : (out ++ [a]).contains a = true := by rw [List.contains_iff_mem]; simp
   have h3 := unseen_mono a out U
   unfold unseen at h3 ⊢
   rw [List.filter_cons_of_pos (p := fun x => !out.contains x) (by rw [hx]; rfl), List.filter_cons_of_neg (p := fun y => !(out ++ [a]).contains y) (by rw [h2]; decide), List.length_cons]
   omega
  ·have hU : x ∈ U := by
    rcases List.mem_cons.mp h with h | h
    ·exact absurd h.symm e
    ·exact h
   have ih := unseen_lt x out hx U hU
   unfold unseen at ih ⊢
   by_cases h1 : out.contains a = true
   ·have h2 : (out ++ [x]).contains a = true := by rw [List.contains_iff_mem] at h1 ⊢; exact List.mem_append_left _ h1
    rw [List.filter_cons_of_neg (p := fun x => !out.contains x) (by rw [h1]; decide), List.filter_cons_of_neg (p := fun y => !(out ++ [x]).contains y) (by rw [h2]; decide)]
    exact ih
   ·have h1' : out.contains a = false := by simpa using h1
    have h2' : (out ++ [x]).contains a = false := by
     rw [← Bool.not_eq_true, List.contains_iff_mem] at h1' ⊢
     intro q
     rcases List.mem_append.mp q with q | q
     ·exact h1' q
     ·exact e (List.mem_singleton.mp q)
    rw [List.filter_cons_of_pos (p := fun x => !out.contains x) (by rw [h1']; rfl), List.filter_cons_of_pos (p := fun y => !(out ++ [x]).contains y) (by rw [h2']; rfl), List.length_cons, List.length_cons]
    omega
theorem todo_split (todo : List Int) (t : Nat) (h : todo.length = t + 1) : todo = todo.take t ++ [rd todo (t : Int)] := by
 have h1 : todo.take (t + 1) = todo := List.take_of_length_le (by omega)
 rw [← h1]
 conv => lhs; rw [take_nextI todo 0 (by omega)]
 rw [h1]
 rfl
/-- In order, each once. -/
theorem sort_up {l : List Int} (h : l.Nodup) : (l.mergeSort fun x y => decide (x ≤ y)).Pairwise (· < ·) := by
 have h1 := List.pairwise_mergeSort (le := fun x y : Int => decide (x ≤ y)) (fun a b c h1 h2 => by simp at h1 h2 ⊢; omega) (fun a b => by simp; omega) l
 have h2 : (l.mergeSort fun x y => decide (x ≤ y)).Pairwise (· ≠ ·) := (List.mergeSort_perm l _).nodup_iff.mpr h
 exact (h1.and h2).imp (fun {a b} q => by
  have := of_decide_eq_true q.1
  have := q.2
  omega)
/-- The numbers from 1 on. -/
def upTo (n : Nat) : List Int := (List.range n).map fun i : Nat => (i : Int) + 1
end Go.Proofs.Ytonmlncejikbiaa.Q
namespace Go.Proofs.Ytonmlncejikbiaa.Q
open Go.RowKit Go.Proofs.YtonmlncejikbiaaW.PrintWords Go.Proofs.YtonmlncejikbiaaW.PrintLast Go.Proofs.YtonmlncejikbiaaW.PrintMore
attribute [local go_sem] max2_int min2_int max_two min_two max_three min_three max_four min_four   -- for this text's walks alone
set_option linter.unusedVariables false
set_option linter.unusedSimpArgs false
/-! ### truantref03_Elem: function 20 -/
def truantref03_Elem.f (k : Nat) (a0 : ByteArray) : Option (ByteArray) := if (a0.size : Int) < 2 then (some (⟨#[]⟩ : ByteArray)) else (if 0 < (a0.size : Int) then (if (bt a0 0) = 42 then (if 1 ≤ (a0.size : Int) then ((truantref02_Word.f k (a0.extract 1 a0.size)).bind fun t306 => (if t306 = true then (some (a0.extract 1 a0.size)) else (some (⟨#[]⟩ : ByteArray)))) else (none)) else (some (⟨#[]⟩ : ByteArray))) else (none))
theorem truantref03_Elem.mono : ∀ a0 k, LeO (truantref03_Elem.f k a0) (truantref03_Elem.f (k + 1) a0) := by
 intro a0 k
 unfold truantref03_Elem.f
 repeat' first
   | (with_reducible exact truantref02_Word.mono _ _)
   | (with_reducible exact LeO.refl _)
   | (with_reducible exact LeO.none _)
   | (with_reducible refine LeO.ite ?_ ?_)
   | (with_reducible refine LeO.bind ?_ (fun _ => ?_))
   | exact truantref02_Word.mono _ _
   | exact LeO.none _
   | refine LeO.ite ?_ ?_
   | refine LeO.bind ?_ (fun _ => ?_)
set_option maxHeartbeats 8000000 in
set_option maxRecDepth 100000 in
theorem truantref03_Elem.calls (k : Nat) (a0 : ByteArray) (r : ByteArray) (w : World) (h : truantref03_Elem.f k a0 = some r) :
  Calls Try.prog 20 #[.string a0] w fun e w' => e = .returned (.string r) ∧ Below w.heap.size w w' := by
 have HB := Aside0.mk (Below.refl w.heap.size w)
 have H : (if (a0.size : Int) < 2 then (some (⟨#[]⟩ : ByteArray)) else (if 0 < (a0.size : Int) then (if (bt a0 0) = 42 then (if 1 ≤ (a0.size : Int) then ((truantref02_Word.f k (a0.extract 1 a0.size)).bind fun t306 => (if t306 = true then (some (a0.extract 1 a0.size)) else (some (⟨#[]⟩ : ByteArray)))) else (none)) else (some (⟨#[]⟩ : ByteArray))) else (none))) = some r := h
 clear h
 by_cases c2 : (a0.size : Int) < 2
 ·rw [if_pos c2] at H
  have c2b0 : decide ((a0.size : Int) < 2) = true := decide_eq_true c2
  have c2b1 : decide (a0.size < 2) = true := decide_eq_true (by omega)
  clear c2
  obtain rfl := Option.some.inj H
  go_enter Try.func20, Try.ntmps20
  go_wp2
  go_ret
  exact ⟨by first | rfl | (simp [errW_none, errW_some] <;> rfl) | (simp [*, errW_none, errW_some] <;> rfl), by repeat (first | (with_reducible first | exact HB.out | apply below_alloc | apply pw_below_drewN | apply below_drew1) | exact HB.out)⟩
 ·rw [if_neg c2] at H
  have c2b0 : decide ((a0.size : Int) < 2) = false := decide_eq_false c2
  have c2b1 : decide (a0.size < 2) = false := decide_eq_false (by omega)
  clear c2
  by_cases c3 : 0 < (a0.size : Int)
  ·rw [if_pos c3] at H
   have c3b0 : decide (0 < (a0.size : Int)) = true := decide_eq_true c3
   have c3b1 : decide (0 < a0.size) = true := decide_eq_true (by omega)
   clear c3
   by_cases c5 : (bt a0 0) = 42
   ·rw [if_pos c5] at H
    have c5b0 : ((bt a0 0) == 42) = true := beq_iff_eq.mpr c5
    have c5b1 : ((bt a0 0) != 42) = false := bne_eq_false_iff_eq.mpr c5
    clear c5
    by_cases c6 : 1 ≤ (a0.size : Int)
    ·rw [if_pos c6] at H
     have c6b0 := eq_true c6
     have c6b1 : decide (1 ≤ (a0.size : Int)) = true := decide_eq_true c6
     clear c6
     replace H := Option.bind_eq_some_iff.mp H
     obtain ⟨t306, A70, H⟩ := H
     replace H : (if t306 = true then (some (a0.extract 1 a0.size)) else (some (⟨#[]⟩ : ByteArray))) = some r := H
     have A7 := Aside0.mk A70
     clear A70
     by_cases c8 : t306 = true
     ·subst c8
      have H1 : (some (a0.extract 1 a0.size)) = some r := by rw [if_pos rfl] at H; exact H
      clear H
      have H := H1
      clear H1
      have c9b0 := eq_true (of_decide_eq_true (by first | (with_reducible assumption) | assumption) : 1 ≤ (a0.size : Int))
      obtain rfl := Option.some.inj H
      have p4 : 0 ≤ (0 : Int) := (by omega)
      have q4 : 0 < a0.size := (by have : (0 : Int) < (a0.size : Int) := of_decide_eq_true (by first | (with_reducible assumption) | assumption); omega)
      have hx4 : ∀ h : 0 < a0.size, ((a0[0]'h).toNat : Int) = bt a0 0 := bt_at a0 0
      clear p4
      have qi4 : (0 < (a0.size : Int)) = True := eq_true (of_decide_eq_true (by first | (with_reducible assumption) | assumption))
      replace q4 := eq_true q4
      go_enter Try.func20, Try.ntmps20
      go_wp2_with (first | (go_at_call 70; (with_reducible refine (truantref02_Word.calls k (a0.extract 1 a0.size) true _ A7.out).mono ?_); rintro e w10 ⟨rfl, hb⟩; have n0_ := Aside0.mk (below_step (by repeat (first | (with_reducible first | exact HB.out | apply below_alloc | apply pw_below_drewN | apply below_drew1) | exact HB.out)) hb); clear HB; have HB := n0_; clear n0_; (try clear hb); (try clear hb2); (try clear hk); (try clear hi)))
      go_ret
      exact ⟨by first | rfl | (simp [errW_none, errW_some] <;> rfl) | (simp [*, errW_none, errW_some] <;> rfl), by repeat (first | (with_reducible first | exact HB.out | apply below_alloc | apply pw_below_drewN | apply below_drew1) | exact HB.out)⟩
     ·replace c8 := Bool.eq_false_iff.mpr c8
      subst c8
      have H1 : (some (⟨#[]⟩ : ByteArray)) = some r := by rw [if_neg (show ¬ (false = true) by decide)] at H; exact H
      clear H
      have H := H1
      clear H1
      obtain rfl := Option.some.inj H
      have p4 : 0 ≤ (0 : Int) := (by omega)
      have q4 : 0 < a0.size := (by have : (0 : Int) < (a0.size : Int) := of_decide_eq_true (by first | (with_reducible assumption) | assumption); omega)
      have hx4 : ∀ h : 0 < a0.size, ((a0[0]'h).toNat : Int) = bt a0 0 := bt_at a0 0
      clear p4
      have qi4 : (0 < (a0.size : Int)) = True := eq_true (of_decide_eq_true (by first | (with_reducible assumption) | assumption))
      replace q4 := eq_true q4
      go_enter Try.func20, Try.ntmps20
      go_wp2_with (first | (go_at_call 70; (with_reducible refine (truantref02_Word.calls k (a0.extract 1 a0.size) false _ A7.out).mono ?_); rintro e w11 ⟨rfl, hb⟩; have n0_ := Aside0.mk (below_step (by repeat (first | (with_reducible first | exact HB.out | apply below_alloc | apply pw_below_drewN | apply below_drew1) | exact HB.out)) hb); clear HB; have HB := n0_; clear n0_; (try clear hb); (try clear hb2); (try clear hk); (try clear hi)))
      go_ret
      exact ⟨by first | rfl | (simp [errW_none, errW_some] <;> rfl) | (simp [*, errW_none, errW_some] <;> rfl), by repeat (first | (with_reducible first | exact HB.out | apply below_alloc | apply pw_below_drewN | apply below_drew1) | exact HB.out)⟩
    ·rw [if_neg c6] at H
     exact absurd H (by simp)
   ·rw [if_neg c5] at H
    have c5b0 : ((bt a0 0) == 42) = false := beq_eq_false_iff_ne.mpr c5
    have c5b1 : ((bt a0 0) != 42) = true := bne_iff_ne.mpr c5
    obtain rfl := Option.some.inj H
    have p4 : 0 ≤ (0 : Int) := (by omega)
    have q4 : 0 < a0.size := (by have : (0 : Int) < (a0.size : Int) := of_decide_eq_true (by first | (with_reducible assumption) | assumption); omega)
    have hx4 : ∀ h : 0 < a0.size, ((a0[0]'h).toNat : Int) = bt a0 0 := bt_at a0 0
    clear p4
    have qi4 : (0 < (a0.size : Int)) = True := eq_true (of_decide_eq_true (by first | (with_reducible assumption) | assumption))
    replace q4 := eq_true q4
    go_enter Try.func20, Try.ntmps20
    go_wp2
    go_ret
    exact ⟨by first | rfl | (simp [errW_none, errW_some] <;> rfl) | (simp [*, errW_none, errW_some] <;> rfl), by repeat (first | (with_reducible first | exact HB.out | apply below_alloc | apply pw_below_drewN | apply below_drew1) | exact HB.out)⟩
  ·rw [if_neg c3] at H
   exact absurd H (by simp)
end Go.Proofs.Ytonmlncejikbiaa.Q
/- The plain law of layer 3, kind: what the printed functions come to. -/
namespace Go.Proofs.Ytonmlncejikbiaa.Q
open Go.RowKit Go.Proofs.YtonmlncejikbiaaW.PrintWords Go.Proofs.YtonmlncejikbiaaW.PrintLast Go.Proofs.YtonmlncejikbiaaW.PrintMore
set_option linter.unusedVariables false
set_option linter.unusedSimpArgs false
/-! words -/
theorem index_ev (l : List ByteArray) (s : ByteArray) (hm : l.length ≤ 9223372036854775807) (d : Nat) : ∀ i : Nat, i ≤ l.length → l.length - i = d → (∀ j : Nat, j < i → keyIs s (l.getD j ByteArray.empty) = false) →
  Ev (fun k => slices_Index_string_string.l0 k l s (l.length : Int) (i : Int)) (findR (keyIs s) l) := by
 induction d with
 | zero =>
  intro i h0 hd h
  refine Ev.step (fun k => rfl) (Ev.neg (by omega) ?_)
  rw [find_none (z := ByteArray.empty) (fun j hj => h j (by omega))]
  exact Ev.now _
 | succ d ih =>
  intro i h0 hd h
  refine Ev.step (fun k => rfl) (Ev.pos (by omega) (Ev.pos (by omega) (Ev.pos (by omega) ?_)))
  by_cases e : keyIs s (l.getD i ByteArray.empty) = true
  ·have e2 : s.toList = (rdOf ByteArray.empty l (i : Int)).toList := (beq_iff_eq.mp e).symm
   refine Ev.pos e2 ?_
   rw [find_last (z := ByteArray.empty) (k := i) (by omega) h e]
   exact Ev.now _
  ·have e2 : ¬ s.toList = (rdOf ByteArray.empty l (i : Int)).toList := fun q => e (beq_iff_eq.mpr q.symm)
   refine Ev.neg e2 ?_
   rw [wrap_succ (by omega) (by omega)]
   exact ih (i + 1) (by omega) (by omega) (all_succ (P := fun j => keyIs s (l.getD j ByteArray.empty) = false) h (by simpa using e))
def keyB (s : ByteArray) : Bool := decide (0 ≤ findR (keyIs s) keyList)
theorem isKey_ev (s : ByteArray) : Ev (fun k => lex_IsKey.f k s) (keyB s) := by
 have h := index_ev keyList s (by decide) 16 0 (by decide) (by decide) (fun j hj => absurd hj (by omega))
 have h2 : Ev (fun k => slices_Contains_string_string.f k keyList s) (keyB s) := Ev.bind h (Ev.now _)
 exact Ev.one (a := lex_keys.f) (b := keyList) rfl (Ev.bind h2 (Ev.now _))
def wordB (s : ByteArray) : Bool := nameB s && (decide (s.size ≤ 12) && !keyB s)
theorem isWord_ev (s : ByteArray) (hs : s.size ≤ 9223372036854775807) : Ev (fun k => lex_IsWord.f k s) (wordB s) := by
 refine Ev.one (a := lex_isName.f s) (b := nameB s) (by unfold lex_isName.f; rw [if_pos hs]) ?_
 unfold wordB
 cases nameB s with
 | false => exact Ev.neg (by decide) (Ev.now _)
 | true =>
  refine Ev.pos rfl ?_
  by_cases h : s.size ≤ 12
  ·refine Ev.pos (by omega) (Ev.eq (Ev.bind (isKey_ev s) (Ev.now _)) (by simp [h]))
  ·refine Ev.neg (by omega) (Ev.eq (Ev.now _) (by simp [h]))
theorem rletter (a : Int) : truantref02_letter.f a = some (letB a) := letB_some a
theorem rdigit (a : Int) : truantref02_digit.f a = some (digB a) := digB_some a
theorem word_l (s : ByteArray) (hs : s.size ≤ 12) (d : Nat) : ∀ i : Nat, i ≤ s.size → s.size - i = d → (∀ j : Nat, j < i → lodB (bt s j) = true) →
  Ev (fun k => truantref02_Word.l0 k s (i : Int)) ((List.range s.size).all (fun i => lodB (bt s (i : Nat)))) := by
 induction d with
 | zero =>
  intro i h0 hd h
  refine Ev.step (fun k => rfl) (Ev.neg (by omega) (Ev.eq (Ev.now _) ?_))
  rw [run_all (k := i) h0 h (fun q => absurd q (by omega))]
  exact (beq_iff_eq.mpr (by omega)).symm
 | succ d ih =>
  intro i h0 hd h
  refine Ev.step (fun k => rfl) (Ev.pos (by omega) (Ev.pos (by omega) (Ev.one (rletter _) ?_)))
  have hno : lodB (bt s i) = false → Ev (fun k : Nat => (some false : Option Bool)) ((List.range s.size).all (fun i => lodB (bt s (i : Nat)))) := fun q => by
   rw [run_all (k := i) h0 h (fun _ => q), beq_eq_false_iff_ne.mpr (by omega)]
   exact Ev.now _
  have hyes : lodB (bt s i) = true → Ev (fun k => truantref02_Word.l0 k s (wrap64 ((i : Int) + 1))) ((List.range s.size).all (fun i => lodB (bt s (i : Nat)))) := fun q => by
   rw [wrap_succ (by omega) (by omega)]
   exact ih (i + 1) (by omega) (by omega) (all_succ (P := fun j => lodB (bt s (j : Nat)) = true) h q)
  cases hl : letB (bt s i) with
  | true => exact Ev.pos rfl (hyes (by unfold lodB; rw [hl]; rfl))
  | false =>
   refine Ev.neg (by decide) (Ev.one (rdigit _) ?_)
   cases hd2 : digB (bt s i) with
   | true => exact Ev.pos rfl (hyes (by unfold lodB; rw [hd2]; simp))
   | false => exact Ev.neg (by decide) (hno (by unfold lodB; rw [hl, hd2]; rfl))
theorem rword_ev (s : ByteArray) : Ev (fun k => truantref02_Word.f k s) (wordB s) := by
 have j_true : Ev (fun k => truantref02_Word.j0 k s true) false := Ev.step (f := fun _ => some false) (fun k => rfl) (Ev.now _)
 by_cases h0 : s.size = 0
 ·refine Ev.pos (by omega) (Ev.eq j_true ?_)
  simp [wordB, nameB, h0]
 ·refine Ev.neg (by omega) ?_
  by_cases h1 : s.size ≤ 12
  ·refine Ev.neg (by omega) (Ev.pos (by omega) (Ev.one (rletter _) ?_))
   cases hl : letB (bt s 0) with
   | false => exact Ev.neg (by decide) (Ev.eq j_true (by simp [wordB, nameB, hl]))
   | true =>
    refine Ev.pos rfl (Ev.one (a := truantref02_Key.f s) (b := keyB s) rfl ?_)
    cases hk : keyB s with
    | true => exact Ev.eq j_true (by simp [wordB, hk])
    | false =>
     refine Ev.step (f := fun k => truantref02_Word.l0 k s 0) (fun k => rfl) (Ev.eq (word_l s h1 s.size 0 (by omega) (by omega) (fun j hj => absurd hj (by omega))) ?_)
     have h3 : 0 < s.size := by omega
     simp [wordB, nameB, hk, hl, h1, h3]
  ·refine Ev.pos (by omega) (Ev.eq j_true ?_)
   simp [wordB, h1]
/-! types -/
/-- Behind the star, if that is a word. -/
def rest (t : ByteArray) : ByteArray := t.extract 1 t.size
def starB (t : ByteArray) : Bool := decide (0 < t.size) && (bt t 0 == 42)
def ptrB (t : ByteArray) : Bool := starB t && wordB (rest t)
def elemS (t : ByteArray) : ByteArray × Bool := if ptrB t = true then (rest t, true) else (⟨#[]⟩, false)
theorem rest_size (t : ByteArray) : (rest t).size = t.size - 1 := by unfold rest; simp
theorem cutPrefix_one (t : ByteArray) : strings_CutPrefix.f t (⟨#[42]⟩ : ByteArray) = some (if starB t = true then (rest t, true) else (t, false)) := by
 have e1 : ((⟨#[42]⟩ : ByteArray).size : Int) = 1 := rfl
 have e2 : (⟨#[42]⟩ : ByteArray).toList = [42] := by rw [ByteArray.toList_eq]
 unfold strings_CutPrefix.f stringslite_CutPrefix.f stringslite_HasPrefix.f
 rw [e1, e2]
 by_cases h0 : 0 < t.size
 ·have hb : ((t.extract 0 (1 : Int).toNat).toList == [42]) = starB t := by
   obtain ⟨⟨l⟩⟩ := t
   cases l with
   | nil => simp [ByteArray.size] at h0
   | cons x l =>
    have e3 : (ByteArray.extract ⟨⟨x :: l⟩⟩ 0 (1 : Int).toNat).toList = [x] := by
     rw [Lib.extract_toList]; rfl
    have e4 : bt ⟨⟨x :: l⟩⟩ 0 = (x.toNat : Int) := (bt_at ⟨⟨x :: l⟩⟩ 0 (by simpa using h0)).symm
    unfold starB
    rw [e3, e4]
    simp only [h0, decide_true, Bool.true_and]
    by_cases hx : x = 42
    ·subst hx; rfl
    ·rw [beq_eq_false_iff_ne.mpr (by simpa using hx), beq_eq_false_iff_ne.mpr]
     intro q
     apply hx
     apply UInt8.toNat_inj.mp
     have e42 : (42 : UInt8).toNat = 42 := rfl
     omega
  rw [if_pos (by omega), if_pos (by omega), if_pos (by omega), hb]
  simp only [Option.bind_some]
  cases starB t with
  | true => rw [if_pos rfl, if_pos (by omega), if_pos (by omega)]; rfl
  | false => rw [if_neg (by decide)]; rfl
 ·have : starB t = false := by unfold starB; simp [h0]
  rw [if_neg (by omega), this]
  rfl
theorem elem_ev (t : ByteArray) (ht : t.size ≤ 9223372036854775807) : Ev (fun k => kind_Elem.f k t) (elemS t) := by
 refine Ev.one (cutPrefix_one t) ?_
 unfold elemS ptrB
 cases starB t with
 | false => exact Ev.neg (by simp) (Ev.now _)
 | true =>
  refine Ev.pos rfl (Ev.bind (isWord_ev (rest t) (by rw [rest_size]; omega)) ?_)
  cases hw : wordB (rest t) with
  | false => exact Ev.neg (by decide) (Ev.now _)
  | true => exact Ev.pos rfl (Ev.now _)
theorem relem_ev (t : ByteArray) : Ev (fun k => truantref03_Elem.f k t) (elemS t).1 := by
 have hw1 : wordB (rest t) = true → 1 < t.size := fun h => by
  unfold wordB nameB at h
  simp at h
  have := h.1.1.1
  rw [rest_size] at this
  omega
 by_cases h2 : t.size < 2
 ·refine Ev.pos (by omega) (Ev.eq (Ev.now _) ?_)
  unfold elemS
  rw [if_neg]
  unfold ptrB
  intro q
  simp at q
  have := hw1 q.2
  omega
 ·refine Ev.neg (by omega) (Ev.pos (by omega) ?_)
  by_cases hs : bt t 0 = 42
  ·have hsb : starB t = true := by unfold starB; rw [hs]; simp; omega
   refine Ev.pos hs (Ev.pos (by omega) (Ev.bind (rword_ev (rest t)) ?_))
   unfold elemS ptrB
   rw [hsb]
   cases hw : wordB (rest t) with
   | false => exact Ev.neg (by decide) (Ev.now _)
   | true => exact Ev.pos rfl (Ev.now _)
  ·have hsb : starB t = false := by unfold starB; rw [beq_eq_false_iff_ne.mpr hs]; simp
   refine Ev.neg hs (Ev.eq (Ev.now _) ?_)
   unfold elemS ptrB
   rw [hsb]; rfl
theorem rfind_ev (l : List S43) (s : ByteArray) (hm : l.length ≤ 9223372036854775807) : Ev (fun k => truantref03_Find.f k l s) (findR (nameIs s) l) := by
 have key : ∀ (d i : Nat), i ≤ l.length → l.length - i = d → (∀ j : Nat, j < i → nameIs s (l.getD j z43) = false) → Ev (fun k => truantref03_Find.l0 k l s (i : Int)) (findR (nameIs s) l) := by
  intro d
  induction d with
  | zero =>
   intro i h0 hd h
   refine Ev.step (fun k => rfl) (Ev.neg (by omega) ?_)
   rw [find_none (z := z43) (fun j hj => h j (by omega))]
   exact Ev.now _
  | succ d ih =>
   intro i h0 hd h
   refine Ev.step (fun k => rfl) (Ev.pos (by omega) (Ev.pos (by omega) ?_))
   by_cases e : nameIs s (l.getD i z43) = true
   ·refine Ev.pos (beq_iff_eq.mp e) ?_
    rw [find_last (z := z43) (k := i) (by omega) h e]
    exact Ev.now _
   ·refine Ev.neg (fun q => e (beq_iff_eq.mpr q)) ?_
    rw [wrap_succ (by omega) (by omega)]
    exact ih (i + 1) (by omega) (by omega) (all_succ (P := fun j => nameIs s (l.getD j z43) = false) h (by simpa using e))
 exact key l.length 0 (by omega) (by omega) (fun j hj => absurd hj (by omega))
/-! the links -/
def linksD (fs : List S48) : Nat → Nat → List Int
 | 0, _ => []
 | d + 1, i => if (elemS (fs.getD i z48).f1).2 = true then (i : Int) :: linksD fs d (i + 1) else linksD fs d (i + 1)
def linksL (fs : List S48) : List Int := linksD fs fs.length 0
theorem linksD_len (fs : List S48) : ∀ d i, (linksD fs d i).length ≤ d
 | 0, i => by simp [linksD]
 | d + 1, i => by
  unfold linksD
  have := linksD_len fs d (i + 1)
  split
  ·simp; omega
  ·omega
theorem links_ev (n : ByteArray) (fs : List S48) (hm : fs.length ≤ 4398046511104) (hs : ∀ j : Nat, j < fs.length → (fs.getD j z48).f1.size ≤ 9223372036854775807) : Ev (fun k => kind_Links.f k n fs) (linksL fs) := by
 have key : ∀ (d i : Nat) (acc : List Int), i ≤ fs.length → fs.length - i = d → acc.length ≤ i → Ev (fun k => kind_Links.l0 k acc fs (fs.length : Int) (i : Int)) (acc ++ linksD fs d i) := by
  intro d
  induction d with
  | zero =>
   intro i acc h0 hd ha
   exact Ev.step (fun k => rfl) (Ev.neg (by omega) (Ev.eq (Ev.now _) (by simp [linksD])))
  | succ d ih =>
   intro i acc h0 hd ha
   refine Ev.step (fun k => rfl) (Ev.pos (by omega) (Ev.pos (by omega) (Ev.pos (by omega) (Ev.bind (elem_ev _ (hs i (by omega))) ?_))))
   rw [wrap_succ (by omega) (by omega)]
   unfold linksD
   by_cases h : (elemS (fs.getD i z48).f1).2 = true
   ·rw [if_pos h]
    refine Ev.pos h (Ev.pos (by omega) (Ev.eq (ih (i + 1) (acc ++ [(i : Int)]) (by omega) (by omega) (by simp; omega)) (by simp)))
   ·rw [if_neg h]
    exact Ev.neg h (ih (i + 1) acc (by omega) (by omega) (by omega))
 exact key fs.length 0 [] (by omega) (by omega) (by simp)
theorem linksL_in (fs : List S48) : ∀ d i : Nat, ∀ q ∈ linksD fs d i, (i : Int) ≤ q ∧ q < ((i + d : Nat) : Int)
 | 0, i, q, h => by cases h
 | d + 1, i, q, h => by
  unfold linksD at h
  have key : ∀ p, p ∈ linksD fs d (i + 1) → (i : Int) ≤ p ∧ p < ((i + (d + 1) : Nat) : Int) := fun p hp => by
   have := linksL_in fs d (i + 1) p hp
   omega
  split at h
  ·rcases List.mem_cons.mp h with h | h
   ·subst h; omega
   ·exact key q h
  ·exact key q h
theorem linksL_len (fs : List S48) : (linksL fs).length ≤ fs.length := linksD_len fs fs.length 0
end Go.Proofs.Ytonmlncejikbiaa.Q
namespace Go.Proofs.Ytonmlncejikbiaa.Q
open Go.RowKit Go.Proofs.YtonmlncejikbiaaW.PrintWords Go.Proofs.YtonmlncejikbiaaW.PrintLast Go.Proofs.YtonmlncejikbiaaW.PrintMore
attribute [local go_sem] max2_int min2_int max_two min_two max_three min_three max_four min_four   -- for this text's walks alone
set_option linter.unusedVariables false
set_option linter.unusedSimpArgs false
end Go.Proofs.Ytonmlncejikbiaa.Q
/- A heap's Near and Reach, by plain names; the document's 'has' of the law. -/
namespace Go.Proofs.Ytonmlncejikbiaa.Q
open Go.RowKit Go.Proofs.YtonmlncejikbiaaW.PrintWords Go.Proofs.YtonmlncejikbiaaW.PrintLast Go.Proofs.YtonmlncejikbiaaW.PrintMore
set_option linter.unusedVariables false
set_option linter.unusedSimpArgs false
/-- The structs that came in, as the walks want them. -/
structure RS (S : List S43) : Prop where
 len : S.length ≤ 1000000
 fields : ∀ x ∈ S, x.f1.length ≤ 1000
 links : ∀ x ∈ S, ∃ k, kind_Links.f k x.f0 x.f1 = some (linksL x.f1)
section
variable {base g : Nat} {w : World} {sv lv : Value} {S : List S43} {L : List (Int × List Int)} {sok lok : Nat → Prop}
end
theorem reach_none (k : Nat) : ∀ l : List Int, l.length < k → reachQ (fun _ => false) (fun _ => none) k l [] = some [] := by
 induction k with
 | zero => intro l h; omega
 | succ k ih =>
  intro l h
  unfold reachQ
  by_cases hp : 0 < l.length
  ·rw [if_pos hp, if_neg (fun q => absurd q.1 (by decide))]
   exact ih _ (by rw [List.length_take]; omega)
  ·rw [if_neg hp]
/-- The numbers of an object's links, of its first fields. -/
def lkF (fs : List S48) (F : List Int) : Nat → List Int
 | 0 => []
 | j + 1 => lkF fs F j ++ (if (elemS (fs.getD j z48).f1).1.toList = [] then [] else [rd F (j : Int)])
theorem lkF_len (fs : List S48) (F : List Int) : ∀ n, (lkF fs F n).length ≤ n
 | 0 => Nat.le_refl _
 | n + 1 => by
  unfold lkF
  have := lkF_len fs F n
  rw [List.length_append]
  split <;> simp <;> omega
theorem elemS_empty (t : ByteArray) : (elemS t).1.toList = [] ↔ (elemS t).2 = false := by
 unfold elemS
 by_cases h : ptrB t = true
 ·rw [if_pos h]
  constructor
  ·intro e
   unfold ptrB at h
   rw [Bool.and_eq_true] at h
   have hw := h.2
   unfold wordB nameB at hw
   have e : (rest t).toList = [] := e
   have e2 : (rest t).size = 0 := by
    rw [ByteArray.toList_eq] at e
    have := congrArg List.length e
    simpa using this
   rw [e2] at hw
   exact absurd hw (by simp)
  ·intro e; cases e
 ·rw [if_neg h]
  exact ⟨fun _ => rfl, fun _ => by rw [ByteArray.toList_eq]⟩
theorem lkF_mem (fs : List S48) (F : List Int) (y : Int) : ∀ n, y ∈ lkF fs F n ↔ ∃ j : Nat, j < n ∧ (elemS (fs.getD j z48).f1).2 = true ∧ y = rd F (j : Int)
 | 0 => ⟨fun h => (by cases h), fun ⟨j, h, _⟩ => (by omega)⟩
 | n + 1 => by
  have ih := lkF_mem fs F y n
  unfold lkF
  rw [List.mem_append, ih]
  constructor
  ·rintro (⟨j, h1, h2, h3⟩ | h)
   ·exact ⟨j, by omega, h2, h3⟩
   ·split at h
    ·cases h
    ·rename_i hne
     rw [List.mem_singleton] at h
     refine ⟨n, by omega, ?_, h⟩
     cases e : (elemS (fs.getD n z48).f1).2
     ·exact absurd ((elemS_empty _).mpr e) hne
     ·rfl
  ·rintro ⟨j, h1, h2, h3⟩
   by_cases e : j = n
   ·subst e
    refine .inr ?_
    rw [if_neg (fun q => by rw [elemS_empty, h2] at q; cases q), List.mem_singleton]
    exact h3
   ·exact .inl ⟨j, by omega, h2, h3⟩
theorem linksD_mem (fs : List S48) : ∀ d i : Nat, ∀ q : Int, q ∈ linksD fs d i ↔ ∃ j : Nat, i ≤ j ∧ j < i + d ∧ (elemS (fs.getD j z48).f1).2 = true ∧ q = (j : Int)
 | 0, i, q => ⟨fun h => (by cases h), fun ⟨j, h1, h2, _⟩ => (by omega)⟩
 | d + 1, i, q => by
  have ih := linksD_mem fs d (i + 1) q
  unfold linksD
  by_cases hb : (elemS (fs.getD i z48).f1).2 = true
  ·rw [if_pos hb, List.mem_cons, ih]
   constructor
   ·rintro (h | ⟨j, h1, h2, h3, h4⟩)
    ·exact ⟨i, by omega, by omega, hb, h⟩
    ·exact ⟨j, by omega, by omega, h3, h4⟩
   ·rintro ⟨j, h1, h2, h3, h4⟩
    by_cases e : j = i
    ·subst e; exact .inl h4
    ·exact .inr ⟨j, by omega, by omega, h3, h4⟩
  ·rw [if_neg hb, ih]
   constructor
   ·rintro ⟨j, h1, h2, h3, h4⟩; exact ⟨j, by omega, by omega, h3, h4⟩
   ·rintro ⟨j, h1, h2, h3, h4⟩
    by_cases e : j = i
    ·subst e; exact absurd h3 hb
    ·exact ⟨j, by omega, by omega, h3, h4⟩
theorem setS_len (L : List (Int × Int × List Int)) (F : List Bool) (o f n : Int) : (setS L F o f n).length = L.length := by
 unfold setS
 split
 ·rw [List.length_set]
 ·rfl
theorem mkSL_len {S : List S43} (L : List (Int × Int × List Int)) (F : List Bool) (nm : ByteArray) (f : Int) : (mkSL S L F nm f).length ≤ L.length + 1 := by
 unfold mkSL
 split <;> simp
theorem leaveF_len (F : List Bool) (f : Int) : (leaveF F f).length = F.length := by
 unfold leaveF
 split
 ·rw [List.length_set]
 ·rfl
/-- Another place is as it was; the same place has as many numbers, and its frame. -/
theorem setS_rd (L : List (Int × Int × List Int)) (F : List Bool) (o f n i : Int) : (rdS (setS L F o f n) i).2.2.length = (rdS L i).2.2.length ∧ (rdS (setS L F o f n) i).2.1 = (rdS L i).2.1 ∧ (rdS (setS L F o f n) i).1 = (rdS L i).1 := by
 unfold setS
 split
 ·rename_i hz
  obtain ⟨p0, p1, _, p2, p3⟩ := chkS_zero hz
  unfold rdS
  by_cases e : i.toNat = (o - 1).toNat
  ·rw [e, List.getD_eq_getElem?_getD, List.getElem?_set_self (by omega), Option.getD_some]
   exact ⟨List.length_set, rfl, rfl⟩
  ·rw [List.getD_eq_getElem?_getD, List.getElem?_set_ne (by omega), ← List.getD_eq_getElem?_getD]
   exact ⟨rfl, rfl, rfl⟩
 ·exact ⟨rfl, rfl, rfl⟩
/-- Two parts stay apart, whichever of them grows. -/
theorem apart_l {w : World} {T U : Nat → Prop} (h : ∀ k, T k → ¬ U k) : ∀ k, New w T k → ¬ (U k ∧ k < w.heap.size) := by
 rintro k (h1 | h1) ⟨h2, h3⟩
 ·exact h k h1 h2
 ·omega
theorem apart_r {w : World} {T U : Nat → Prop} (h : ∀ k, T k → ¬ U k) : ∀ k, (T k ∧ k < w.heap.size) → ¬ New w U k := by
 rintro k ⟨h2, h3⟩ (h1 | h1)
 ·exact h k h2 h1
 ·omega
section
variable {base g : Nat} {w w1 : World} {S : List S43} {L : List (Int × Int × List Int)} {F : List Bool} {T U : Nat → Prop}
/-- A store that stands beside what turns. -/
theorem SP.beside (h : SP w base g S L F U) (hk : Kept w w1 T) (ha : ∀ k, T k → ¬ U k) : SP w1 base g S L F (fun k => U k ∧ k < w.heap.size) :=
 (h.mono (U := fun k => U k ∧ k < w.heap.size) (fun k hk hl => ⟨hk, hl⟩)).kept hk (fun k hu _ ht => ha k ht hu.1)
end
def kSr : Kd (Int × Int × Bool × List Int) := Kd.pair (Kd.int .i64) (Kd.pair (Kd.int .i64) (Kd.pair Kd.bool (Kd.slice 3 (Kd.int .i64))))
theorem kSr_open {w : World} {x : Int × Int × Bool × List Int} {cs : List Value} (h : kSr.K w x cs) : ∃ A1 c1, cs = [.int .i64 x.1, .int .i64 x.2.1, .bool x.2.2.1, .slice A1 x.2.2.2.length c1] ∧ x.2.2.2.length ≤ c1 ∧ (Kd.int .i64).C w A1 x.2.2.2.length x.2.2.2 := by
 obtain ⟨_, _, rfl, rfl, ⟨_, _, rfl, rfl, ⟨_, _, rfl, rfl, ⟨A1, c1, rfl, l1, g1⟩⟩⟩⟩ := h
 exact ⟨A1, c1, rfl, l1, g1⟩
theorem kSr_openM {w : World} {base : Nat} {ok : Nat → Prop} {x : Int × Int × Bool × List Int} {cs : List Value} (h : kSr.M w base ok x cs) : ∃ v1, cs = [.int .i64 x.1, .int .i64 x.2.1, .bool x.2.2.1, v1] ∧ (Kd.int .i64).R 3 w base ok v1 x.2.2.2 := by
 obtain ⟨_, _, rfl, rfl, ⟨_, _, rfl, rfl, ⟨_, _, rfl, rfl, ⟨v1, rfl, g1⟩⟩⟩⟩ := h
 exact ⟨v1, rfl, g1⟩
theorem kSr_mkM (w : World) (base : Nat) (ok : Nat → Prop) (x : Int × Int × Bool × List Int) {v1 : Value} (g1 : (Kd.int .i64).R 3 w base ok v1 x.2.2.2) : kSr.M w base ok x [.int .i64 x.1, .int .i64 x.2.1, .bool x.2.2.1, v1] := ⟨[.int .i64 x.1], [.int .i64 x.2.1, .bool x.2.2.1, v1], rfl, rfl, ⟨[.int .i64 x.2.1], [.bool x.2.2.1, v1], rfl, rfl, ⟨[.bool x.2.2.1], [v1], rfl, rfl, ⟨v1, rfl, g1⟩⟩⟩⟩
def rdU (xs : List (Int × Int × Bool × List Int)) (i : Int) : Int × Int × Bool × List Int := xs.getD i.toNat (0, 0, false, [])
theorem at_U {w : World} {A : Option Addr} {n : Nat} {xs : List (Int × Int × Bool × List Int)} (h : Kd.C kSr w A n xs) (i : Int) (h0 : 0 ≤ i) (h1 : i < n) : ∃ ad A1 c1, A = some ad ∧ w.cell? (ad.add (i.toNat * 4)) = some (.int .i64 (rdU xs i).1) ∧ w.cell? ⟨(ad.add (i.toNat * 4)).block, (ad.add (i.toNat * 4)).off + 1, none⟩ = some (.int .i64 (rdU xs i).2.1) ∧ w.cell? ⟨(ad.add (i.toNat * 4)).block, (ad.add (i.toNat * 4)).off + 2, none⟩ = some (.bool (rdU xs i).2.2.1) ∧ w.cell? ⟨(ad.add (i.toNat * 4)).block, (ad.add (i.toNat * 4)).off + 3, none⟩ = some (.slice A1 (rdU xs i).2.2.2.length c1) ∧ (rdU xs i).2.2.2.length ≤ c1 ∧ (Kd.int .i64).C w A1 (rdU xs i).2.2.2.length (rdU xs i).2.2.2 := by
 obtain ⟨ad, c, e, _, hK, hc0⟩ := Kd.C_get h (0, 0, false, []) i h0 h1
 have hc : ∀ j u, c[j]? = some u → w.cell? (ad.add (i.toNat * 4 + j)) = some u := hc0
 obtain ⟨A1, c1, rfl, l1, g1⟩ := kSr_open hK
 exact ⟨ad, A1, c1, e, hc 0 _ rfl, by rw [← add_field _ _ 1 (by omega)]; exact hc 1 _ rfl, by rw [← add_field _ _ 2 (by omega)]; exact hc 2 _ rfl, by rw [← add_field _ _ 3 (by omega)]; exact hc 3 _ rfl, l1, g1⟩
/-- A store: block g holds its structs, only read (in sok), its objects, each with a row of its own (in lok), its frames (in fok), and a number. -/
structure Su (W : World) (base g : Nat) (sv lv fv : Value) (S : List S43) (L : List (Int × Int × Bool × List Int)) (F : List Bool) (sok lok fok : Nat → Prop) : Prop where
 blk : W.heap[g]? = some (.cells #[sv, lv, fv] 92 (0, 0))
 low : base ≤ g
 sts : Kd.V k43 43 W base sok sv S
 lst : Kd.S kSr 97 W base lok lv L
 frs : Kd.bool.R 4 W base fok fv F
 sap : ∀ k, sok k → k ≠ g ∧ ¬ lok k ∧ ¬ fok k ∧ k < W.heap.size
 lap : ∀ k, lok k → k ≠ g ∧ ¬ fok k ∧ base ≤ k ∧ k < W.heap.size
 fap : ∀ k, fok k → k ≠ g ∧ base ≤ k ∧ k < W.heap.size
section
variable {base g : Nat} {W W1 : World} {sv lv fv : Value} {S : List S43} {L : List (Int × Int × Bool × List Int)} {F : List Bool} {sok lok fok T : Nat → Prop}
theorem Su.kept (h : Su W base g sv lv fv S L F sok lok fok) (hk : Kept W W1 T) (hg : ¬ T g) (hs : ∀ k, sok k → ¬ T k) (hl : ∀ k, lok k → ¬ T k) (hf : ∀ k, fok k → ¬ T k) : Su W1 base g sv lv fv S L F sok lok fok where
 blk := (hk.2 g (blk_lt h.blk) hg).trans h.blk
 low := h.low
 sts := Kd.V_kept h.sts hk hs
 lst := Kd.S_kept h.lst hk hl
 frs := Kd.R_kept h.frs hk hf
 sap := fun k hk1 => ⟨(h.sap k hk1).1, (h.sap k hk1).2.1, (h.sap k hk1).2.2.1, Nat.lt_of_lt_of_le (h.sap k hk1).2.2.2 hk.1⟩
 lap := fun k hk1 => ⟨(h.lap k hk1).1, (h.lap k hk1).2.1, (h.lap k hk1).2.2.1, Nat.lt_of_lt_of_le (h.lap k hk1).2.2.2 hk.1⟩
 fap := fun k hk1 => ⟨(h.fap k hk1).1, (h.fap k hk1).2.1, Nat.lt_of_lt_of_le (h.fap k hk1).2.2 hk.1⟩
theorem Su.below (h : Su W base g sv lv fv S L F sok lok fok) (hb : Below W.heap.size W W1) : Su W1 base g sv lv fv S L F sok lok fok :=
 h.kept (Kept.of_below hb (fun _ => False)) (fun x => x) (fun _ _ x => x) (fun _ _ x => x) (fun _ _ x => x)
theorem Su.base_le (h : Su W base g sv lv fv S L F sok lok fok) : base ≤ W.heap.size := Nat.le_trans h.low (Nat.le_of_lt (blk_lt h.blk))
/-- What is read of an object. -/
theorem Su.elem (h : Su W base g sv lv fv S L F sok lok fok) (i : Int) (h0 : 0 ≤ i) (h1 : i < (L.length : Int)) :
  ∃ ad cl A1 c1, lv = .slice (some ad) L.length cl ∧ L.length ≤ cl ∧ W.cell? (ad.add (i.toNat * 4)) = some (.int .i64 (rdU L i).1) ∧ W.cell? ⟨(ad.add (i.toNat * 4)).block, (ad.add (i.toNat * 4)).off + 1, none⟩ = some (.int .i64 (rdU L i).2.1) ∧ W.cell? ⟨(ad.add (i.toNat * 4)).block, (ad.add (i.toNat * 4)).off + 2, none⟩ = some (.bool (rdU L i).2.2.1) ∧ W.cell? ⟨(ad.add (i.toNat * 4)).block, (ad.add (i.toNat * 4)).off + 3, none⟩ = some (.slice A1 (rdU L i).2.2.2.length c1) ∧ (rdU L i).2.2.2.length ≤ c1 ∧ (Kd.int .i64).C W A1 (rdU L i).2.2.2.length (rdU L i).2.2.2 := by
 obtain ⟨A, c, rfl, hc, hC⟩ := Kd.S_reads h.lst
 obtain ⟨ad, A1, c1, rfl, h2, h3, h4, h5, h6, h7⟩ := at_U hC i h0 h1
 exact ⟨ad, c, A1, c1, rfl, hc, h2, h3, h4, h5, h6, h7⟩
/-- The list's value. -/
theorem Su.list (h : Su W base g sv lv fv S L F sok lok fok) : ∃ A c, lv = .slice A L.length c ∧ L.length ≤ c ∧ L.length ≤ 9223372036854775807 := by
 obtain ⟨A, c, e, hc, hC⟩ := Kd.S_reads h.lst
 exact ⟨A, c, e, hc, Kd.C_max hC⟩
theorem Su.frames (h : Su W base g sv lv fv S L F sok lok fok) : ∃ A c, fv = .slice A F.length c ∧ F.length ≤ c ∧ F.length ≤ 9223372036854775807 ∧ Kd.bool.C W A F.length F := by
 obtain ⟨A, c, e, hc, hC⟩ := Kd.R_reads h.frs
 exact ⟨A, c, e, hc, Kd.C_max hC, hC⟩
theorem Su.structs (h : Su W base g sv lv fv S L F sok lok fok) : ∃ A c, sv = .slice A S.length c ∧ S.length ≤ c ∧ Kd.C k43 W A S.length S := by
 obtain ⟨A, c, rfl⟩ := Kd.V_slice h.sts
 obtain ⟨_, h1, h2⟩ := Kd.V_reads' h.sts
 exact ⟨A, c, rfl, h1, h2⟩
/-- A number of an object is written. -/
theorem Su.lend (h : Su W base g sv lv fv S L F sok lok fok) (i f : Int) (h0 : 0 ≤ i) (h1 : i < (L.length : Int)) (f0 : 0 ≤ f) (f1 : f < ((rdU L i).2.2.2.length : Int)) :
  ∃ ad cl b cp, lv = .slice (some ad) L.length cl ∧ L.length ≤ cl ∧ W.cell? ⟨(ad.add (i.toNat * 4)).block, (ad.add (i.toNat * 4)).off + 3, none⟩ = some (.slice (some ⟨b, 0, none⟩) (rdU L i).2.2.2.length cp) ∧ (rdU L i).2.2.2.length ≤ cp ∧ W.cell? ⟨b, f.toNat, none⟩ = some (.int .i64 (rd (rdU L i).2.2.2 f)) ∧ W.frozen? ⟨b, f.toNat, none⟩ = false ∧
   ∀ z : Int, Su (W.setCell ⟨b, f.toNat, none⟩ (.int .i64 z)) base g sv lv fv S (L.set i.toNat ((rdU L i).1, (rdU L i).2.1, (rdU L i).2.2.1, (rdU L i).2.2.2.set f.toNat z)) F sok lok fok ∧ Kept W (W.setCell ⟨b, f.toNat, none⟩ (.int .i64 z)) lok ∧ Below base W (W.setCell ⟨b, f.toNat, none⟩ (.int .i64 z)) := by
 obtain ⟨A, cl, rfl, hc, hC⟩ := Kd.S_reads h.lst
 obtain ⟨ad, A1, c1, rfl, _, _, _, h3, h4, _⟩ := at_U hC i h0 h1
 obtain ⟨oki, cs, hcl, hM, hcc, hok, hput⟩ := Kd.S_borrow h.lst (0, 0, false, []) i h0 (by simpa using h1)
 obtain ⟨v1, rfl, hR⟩ := kSr_openM hM
 have hcell := hcc 3 v1 rfl
 have e2 : kSr.sz = 4 := rfl
 rw [e2, add_field _ _ 3 (by omega)] at hcell
 have hv : v1 = .slice A1 (rdU L i).2.2.2.length c1 := Option.some.inj (hcell.symm.trans h3)
 obtain ⟨b, cp, hf, hb0, hb1, _⟩ := Kd.R_form hR (show 0 < (L.getD i.toNat (0, 0, false, [])).2.2.2.length by have : (rdU L i).2.2.2.length = (L.getD i.toNat (0, 0, false, [])).2.2.2.length := rfl; omega)
 have hR2 : (Kd.int .i64).R 3 W base oki (.slice (some ⟨b, 0, none⟩) (rdU L i).2.2.2.length cp) (rdU L i).2.2.2 := by rw [hf] at hR; exact hR
 obtain ⟨c2, hc2, hM2, hcc2, hfz⟩ := Kd.R_elem hR2 0 f f0 f1
 have hM2' : c2 = [.int .i64 ((rdU L i).2.2.2.getD f.toNat 0)] := hM2
 have hcl2 := hcc2 0 _ (by rw [hM2']; rfl)
 have hfz2 := hfz 0
 have e1 : f.toNat * (Kd.int .i64).sz + 0 = f.toNat := by show f.toNat * 1 + 0 = f.toNat; omega
 rw [e1] at hcl2 hfz2
 have hokb : oki b := hR2.1 b rfl
 have hnl := Kd.R_reads' hR2
 refine ⟨ad, cl, b, cp, rfl, hc, by rw [h3, ← hv, hf]; rfl, by have := hnl.2.1; exact this, hcl2, hfz2, fun z => ?_⟩
 obtain ⟨q1, q2⟩ := Kd.R_putg (enc := Value.int .i64) hR2 f z
 have hlb : lok b := (hok b hokb).1
 have hkept : Kept W (W.setCell ⟨b, f.toNat, none⟩ (.int .i64 z)) lok := Kept.of_grown q2 (Kept.refl W lok) (fun k hk => .inl (by injection hk with hk; rw [← hk]; exact hlb))
 refine ⟨⟨?_, h.low, Kd.V_kept h.sts hkept (fun k hk => (h.sap k hk).2.1), ?_, Kd.R_kept h.frs hkept (fun k hk hl => (h.lap k hl).2.1 hk), fun k hk => ⟨(h.sap k hk).1, (h.sap k hk).2.1, (h.sap k hk).2.2.1, Nat.lt_of_lt_of_le (h.sap k hk).2.2.2 hkept.1⟩, fun k hk => ⟨(h.lap k hk).1, (h.lap k hk).2.1, (h.lap k hk).2.2.1, Nat.lt_of_lt_of_le (h.lap k hk).2.2.2 hkept.1⟩, fun k hk => ⟨(h.fap k hk).1, (h.fap k hk).2.1, Nat.lt_of_lt_of_le (h.fap k hk).2.2 hkept.1⟩⟩, hkept, (Below.refl base W).setCell (h.lap b hlb).2.2.1 _⟩
 ·exact (hkept.2 g (blk_lt h.blk) (fun hk => (h.lap g hk).1 rfl)).trans h.blk
 ·have hx : kSr.M (W.setCell ⟨b, f.toNat, none⟩ (.int .i64 z)) base oki ((rdU L i).1, (rdU L i).2.1, (rdU L i).2.2.1, (rdU L i).2.2.2.set f.toNat z) [.int .i64 (L.getD i.toNat (0, 0, false, [])).1, .int .i64 (L.getD i.toNat (0, 0, false, [])).2.1, .bool (L.getD i.toNat (0, 0, false, [])).2.2.1, v1] := by
   rw [hf]
   exact kSr_mkM _ base oki ((rdU L i).1, (rdU L i).2.1, (rdU L i).2.2.1, (rdU L i).2.2.2.set f.toNat z) (by
    have e3 : ((rdU L i).2.2.2.set f.toNat z).length = (rdU L i).2.2.2.length := List.length_set
    exact q1)
  exact hput (x' := ((rdU L i).1, (rdU L i).2.1, (rdU L i).2.2.1, (rdU L i).2.2.2.set f.toNat z)) q2 (fun k hk => by injection hk with hk; rw [← hk]; exact hokb) hx
/-- An object's Bool is written. -/
theorem Su.mark (h : Su W base g sv lv fv S L F sok lok fok) (i : Int) (h0 : 0 ≤ i) (h1 : i < (L.length : Int)) :
  ∃ ad cl, lv = .slice (some ad) L.length cl ∧ L.length ≤ cl ∧ W.cell? ⟨(ad.add (i.toNat * 4)).block, (ad.add (i.toNat * 4)).off + 2, none⟩ = some (.bool (rdU L i).2.2.1) ∧ W.frozen? ⟨(ad.add (i.toNat * 4)).block, (ad.add (i.toNat * 4)).off + 2, none⟩ = false ∧
   ∀ z : Bool, Su (W.setCell ⟨(ad.add (i.toNat * 4)).block, (ad.add (i.toNat * 4)).off + 2, none⟩ (.bool z)) base g sv lv fv S (L.set i.toNat ((rdU L i).1, (rdU L i).2.1, z, (rdU L i).2.2.2)) F sok lok fok ∧ Kept W (W.setCell ⟨(ad.add (i.toNat * 4)).block, (ad.add (i.toNat * 4)).off + 2, none⟩ (.bool z)) lok ∧ Below base W (W.setCell ⟨(ad.add (i.toNat * 4)).block, (ad.add (i.toNat * 4)).off + 2, none⟩ (.bool z)) := by
 obtain ⟨A, cl, rfl, hc, hC⟩ := Kd.S_reads h.lst
 obtain ⟨go, cap, e, hb0, hb1, _⟩ := Kd.S_form h.lst (by omega)
 cases e
 have hlst := h.lst
 obtain ⟨oki, cs, hcl, hM, hcc, hfr, hok, hH⟩ := Kd.S_elem hlst (0, 0, false, []) i h0 (by simpa using h1)
 obtain ⟨v1, rfl, hR⟩ := kSr_openM hM
 have e2 : kSr.sz = 4 := rfl
 have hcell := hcc 2 _ rfl
 have hf := hfr 2
 rw [e2] at hcell hf
 have hlg : lok go := (Kd.S_R hlst).1 go rfl
 refine ⟨⟨go, 0, none⟩, cl, rfl, hc, ?_, ?_, fun z => ?_⟩
 ·rw [add_plain]; exact hcell
 ·rw [add_plain]; exact hf
 rw [add_plain]
 have hP := Kd.S_seg0 hH h0 (by simpa using h1) (seg := [.bool z]) (j := 2) (show 2 + 1 ≤ 4 from by decide) (x' := ((rdU L i).1, (rdU L i).2.1, z, (rdU L i).2.2.2)) (kSr_mkM W base oki ((rdU L i).1, (rdU L i).2.1, z, (rdU L i).2.2.2) hR) (fun k hk => hk)
 rw [e2] at hP
 have q1 : Kd.S kSr 97 (W.setCell ⟨go, i.toNat * 4 + 2, none⟩ (.bool z)) base lok (.slice (some ⟨go, 0, none⟩) L.length cl) (L.set i.toNat ((rdU L i).1, (rdU L i).2.1, z, (rdU L i).2.2.2)) := hP.1
 have q2 : W.grownBy (W.setCell ⟨go, i.toNat * 4 + 2, none⟩ (.bool z)) (some go) := hP.2
 have hkept : Kept W (W.setCell ⟨go, i.toNat * 4 + 2, none⟩ (.bool z)) lok := Kept.of_grown q2 (Kept.refl W lok) (fun k hk => .inl (by injection hk with hk; rw [← hk]; exact hlg))
 refine ⟨⟨?_, h.low, Kd.V_kept h.sts hkept (fun k hk => (h.sap k hk).2.1), ?_, Kd.R_kept h.frs hkept (fun k hk hl => (h.lap k hl).2.1 hk), fun k hk => ⟨(h.sap k hk).1, (h.sap k hk).2.1, (h.sap k hk).2.2.1, Nat.lt_of_lt_of_le (h.sap k hk).2.2.2 hkept.1⟩, fun k hk => ⟨(h.lap k hk).1, (h.lap k hk).2.1, (h.lap k hk).2.2.1, Nat.lt_of_lt_of_le (h.lap k hk).2.2.2 hkept.1⟩, fun k hk => ⟨(h.fap k hk).1, (h.fap k hk).2.1, Nat.lt_of_lt_of_le (h.fap k hk).2.2 hkept.1⟩⟩, hkept, (Below.refl base W).setCell (h.lap go hlg).2.2.1 _⟩
 ·exact (hkept.2 g (blk_lt h.blk) (fun hk => (h.lap g hk).1 rfl)).trans h.blk
 ·have e3 : (L.set i.toNat ((rdU L i).1, (rdU L i).2.1, z, (rdU L i).2.2.2)).length = L.length := List.length_set
  exact q1
/-- A frame's Bool is written. -/
theorem Su.shut (h : Su W base g sv lv fv S L F sok lok fok) (i : Int) (h0 : 0 ≤ i) (h1 : i < (F.length : Int)) :
  ∃ b cp, fv = .slice (some ⟨b, 0, none⟩) F.length cp ∧ F.length ≤ cp ∧ W.cell? ⟨b, i.toNat, none⟩ = some (.bool (rdOf false F i)) ∧ W.frozen? ⟨b, i.toNat, none⟩ = false ∧
   ∀ z : Bool, Su (W.setCell ⟨b, i.toNat, none⟩ (.bool z)) base g sv lv fv S L (F.set i.toNat z) sok lok fok ∧ Kept W (W.setCell ⟨b, i.toNat, none⟩ (.bool z)) fok ∧ Below base W (W.setCell ⟨b, i.toNat, none⟩ (.bool z)) := by
 have hR := h.frs
 obtain ⟨b, cp, rfl, hb0, hb1, _⟩ := Kd.R_form hR (by omega)
 obtain ⟨c2, hc2, hM2, hcc2, hfz⟩ := Kd.R_elem hR false i h0 (by omega)
 have ej : i.toNat * Kd.bool.sz = i.toNat := Nat.mul_one _
 have hf := hfz 0
 rw [Nat.add_zero, ej] at hf
 obtain ⟨ad, ea, hx⟩ := Kd.at_bool (Kd.R_reads' hR).2.2 i h0 (by omega)
 cases ea
 rw [add_plain] at hx
 have hfb : fok b := hR.1 b rfl
 have hnl := Kd.R_reads' hR
 refine ⟨b, cp, rfl, hnl.2.1, hx, hf, fun z => ?_⟩
 obtain ⟨q1, q2⟩ := Kd.R_putg hR i z
 have hkept : Kept W (W.setCell ⟨b, i.toNat, none⟩ (.bool z)) fok := Kept.of_grown q2 (Kept.refl W fok) (fun k hk => .inl (by injection hk with hk; rw [← hk]; exact hfb))
 refine ⟨⟨?_, h.low, Kd.V_kept h.sts hkept (fun k hk => (h.sap k hk).2.2.1), Kd.S_kept h.lst hkept (fun k hk => (h.lap k hk).2.1), ?_, fun k hk => ⟨(h.sap k hk).1, (h.sap k hk).2.1, (h.sap k hk).2.2.1, Nat.lt_of_lt_of_le (h.sap k hk).2.2.2 hkept.1⟩, fun k hk => ⟨(h.lap k hk).1, (h.lap k hk).2.1, (h.lap k hk).2.2.1, Nat.lt_of_lt_of_le (h.lap k hk).2.2.2 hkept.1⟩, fun k hk => ⟨(h.fap k hk).1, (h.fap k hk).2.1, Nat.lt_of_lt_of_le (h.fap k hk).2.2 hkept.1⟩⟩, hkept, (Below.refl base W).setCell (h.fap b hfb).2.1 _⟩
 ·exact (hkept.2 g (blk_lt h.blk) (fun hk => (h.fap g hk).1 rfl)).trans h.blk
 ·have e3 : (F.set i.toNat z).length = F.length := List.length_set
  exact q1
/-- An object comes behind the others. -/
theorem Su.appended (h : Su W base g sv lv fv S L F sok lok fok) {v1 : Value} {p : Int × Int × Bool × List Int} {ok : Nat → Prop} (hS : Kd.S kSr 97 W1 base ok v1 (L ++ [p])) (hg : W.grownBy W1 lv.ownBlock) (hok : ∀ k, ok k → k ≠ g ∧ ¬ sok k ∧ ¬ fok k) :
  W1.heap[g]? = some (.cells #[sv, lv, fv] 92 (0, 0)) ∧ ∃ lok', Su (W1.setCell ⟨g, 1, none⟩ v1) base g sv v1 fv S (L ++ [p]) F sok lok' fok ∧ (∀ k, lok' k → ok k) ∧ Kept W (W1.setCell ⟨g, 1, none⟩ v1) (fun k => k = g ∨ lok k) ∧ Below base W (W1.setCell ⟨g, 1, none⟩ v1) := by
 have hk1 : Kept W W1 lok := Kept.of_grown hg (Kept.refl W lok) (fun k hk => .inl ((Kd.S_R h.lst).1 k hk))
 have hb1 := (hk1.2 g (blk_lt h.blk) (fun x => (h.lap g x).1 rfl)).trans h.blk
 have hb2 : (W1.setCell ⟨g, 1, none⟩ v1).heap[g]? = some (.cells #[sv, v1, fv] 92 (0, 0)) := blk_put hb1 1 v1 rfl
 have hk2 : Kept W (W1.setCell ⟨g, 1, none⟩ v1) (fun k => k = g ∨ lok k) := Kept.setCell (hk1.mono (fun k hk => .inr hk)) (.inl (.inl rfl)) v1
 have hsz : (W1.setCell ⟨g, 1, none⟩ v1).heap.size = W1.heap.size := by simp [World.setCell]
 have hS2 := Kd.S_mono (ok' := fun k => ok k ∧ base ≤ k ∧ k < W1.heap.size) (Kd.S_bound hS) (fun k hk => ⟨hk.1, hk.2.1, hk.2.2.1⟩)
 refine ⟨hb1, fun k => ok k ∧ base ≤ k ∧ k < W1.heap.size, ⟨hb2, h.low, ?_, Kd.S_far hS2 (p := ⟨g, 1, none⟩) (fun k hk => (hok k hk.1).1) v1, ?_, ?_, ?_, ?_⟩, fun k hk => hk.1, hk2, ((Below.refl base W).grown hg (Nat.le_trans h.low (Nat.le_of_lt (blk_lt h.blk))) (fun k hk => Kd.S_base h.lst k hk)).setCell h.low _⟩
 ·exact Kd.V_kept h.sts hk2 (fun k hk => by
   rintro (e | e)
   ·exact (h.sap k hk).1 e
   ·exact (h.sap k hk).2.1 e)
 ·exact Kd.R_kept h.frs hk2 (fun k hk => by
   rintro (e | e)
   ·exact (h.fap k hk).1 e
   ·exact (h.lap k e).2.1 hk)
 ·exact fun k hk => ⟨(h.sap k hk).1, fun hl => (hok k hl.1).2.1 hk, (h.sap k hk).2.2.1, Nat.lt_of_lt_of_le (h.sap k hk).2.2.2 hk2.1⟩
 ·exact fun k hk => ⟨(hok k hk.1).1, (hok k hk.1).2.2, hk.2.1, by rw [hsz]; exact hk.2.2⟩
 ·exact fun k hk => ⟨(h.fap k hk).1, (h.fap k hk).2.1, Nat.lt_of_lt_of_le (h.fap k hk).2.2 hk2.1⟩
/-- A frame comes behind the others. -/
theorem Su.entered (h : Su W base g sv lv fv S L F sok lok fok) {v1 : Value} {p : Bool} {ok : Nat → Prop} (hR : Kd.bool.R 4 W1 base ok v1 (F ++ [p])) (hg : W.grownBy W1 fv.ownBlock) (hok : ∀ k, ok k → k ≠ g ∧ ¬ sok k ∧ ¬ lok k) :
  W1.heap[g]? = some (.cells #[sv, lv, fv] 92 (0, 0)) ∧ ∃ fok', Su (W1.setCell ⟨g, 2, none⟩ v1) base g sv lv v1 S L (F ++ [p]) sok lok fok' ∧ (∀ k, fok' k → ok k) ∧ Kept W (W1.setCell ⟨g, 2, none⟩ v1) (fun k => k = g ∨ fok k) ∧ Below base W (W1.setCell ⟨g, 2, none⟩ v1) := by
 have hk1 : Kept W W1 fok := Kept.of_grown hg (Kept.refl W fok) (fun k hk => .inl (h.frs.1 k hk))
 have hb1 := (hk1.2 g (blk_lt h.blk) (fun x => (h.fap g x).1 rfl)).trans h.blk
 have hb2 : (W1.setCell ⟨g, 2, none⟩ v1).heap[g]? = some (.cells #[sv, lv, v1] 92 (0, 0)) := blk_put hb1 2 v1 rfl
 have hk2 : Kept W (W1.setCell ⟨g, 2, none⟩ v1) (fun k => k = g ∨ fok k) := Kept.setCell (hk1.mono (fun k hk => .inr hk)) (.inl (.inl rfl)) v1
 have hsz : (W1.setCell ⟨g, 2, none⟩ v1).heap.size = W1.heap.size := by simp [World.setCell]
 have hR2 := Kd.R_mono (ok' := fun k => ok k ∧ base ≤ k ∧ k < W1.heap.size) (Kd.R_bound hR) (fun k hk => ⟨hk.1, hk.2.1, hk.2.2.1⟩)
 refine ⟨hb1, fun k => ok k ∧ base ≤ k ∧ k < W1.heap.size, ⟨hb2, h.low, ?_, ?_, Kd.R_far hR2 (p := ⟨g, 2, none⟩) (fun k hk => (hok k hk.1).1) v1, ?_, ?_, ?_⟩, fun k hk => hk.1, hk2, ((Below.refl base W).grown hg (Nat.le_trans h.low (Nat.le_of_lt (blk_lt h.blk))) (fun k hk => Kd.R_base h.frs k hk)).setCell h.low _⟩
 ·exact Kd.V_kept h.sts hk2 (fun k hk => by
   rintro (e | e)
   ·exact (h.sap k hk).1 e
   ·exact (h.sap k hk).2.2.1 e)
 ·exact Kd.S_kept h.lst hk2 (fun k hk => by
   rintro (e | e)
   ·exact (h.lap k hk).1 e
   ·exact (h.lap k hk).2.1 e)
 ·exact fun k hk => ⟨(h.sap k hk).1, (h.sap k hk).2.1, fun hl => (hok k hl.1).2.1 hk, Nat.lt_of_lt_of_le (h.sap k hk).2.2.2 hk2.1⟩
 ·exact fun k hk => ⟨(h.lap k hk).1, fun hl => (hok k hl.1).2.2 hk, (h.lap k hk).2.2.1, Nat.lt_of_lt_of_le (h.lap k hk).2.2.2 hk2.1⟩
 ·exact fun k hk => ⟨(hok k hk.1).1, hk.2.1, by rw [hsz]; exact hk.2.2⟩
end
/-- A store whose blocks lie in T. -/
def SV (w : World) (base g : Nat) (S : List S43) (L : List (Int × Int × Bool × List Int)) (F : List Bool) (T : Nat → Prop) : Prop :=
 ∃ sv lv fv sok lok fok, Su w base g sv lv fv S L F sok lok fok ∧ ∀ k, (k = g ∨ sok k ∨ lok k ∨ fok k) → T k ∧ k < w.heap.size
section
variable {base g : Nat} {w w1 : World} {S : List S43} {L : List (Int × Int × Bool × List Int)} {F : List Bool} {T U : Nat → Prop}
theorem SV.kept (h : SV w base g S L F T) (hk : Kept w w1 U) (ha : ∀ k, T k → k < w.heap.size → ¬ U k) : SV w1 base g S L F T := by
 obtain ⟨sv, lv, fv, sok, lok, fok, h, ht⟩ := h
 exact ⟨sv, lv, fv, sok, lok, fok, h.kept hk (ha g (ht g (.inl rfl)).1 (ht g (.inl rfl)).2) (fun k hk => ha k (ht k (.inr (.inl hk))).1 (ht k (.inr (.inl hk))).2) (fun k hk => ha k (ht k (.inr (.inr (.inl hk)))).1 (ht k (.inr (.inr (.inl hk)))).2) (fun k hk => ha k (ht k (.inr (.inr (.inr hk)))).1 (ht k (.inr (.inr (.inr hk)))).2), fun k hk2 => ⟨(ht k hk2).1, Nat.lt_of_lt_of_le (ht k hk2).2 hk.1⟩⟩
theorem SV.below (h : SV w base g S L F T) (hb : Below w.heap.size w w1) : SV w1 base g S L F T :=
 h.kept (Kept.of_below hb (fun _ => False)) (fun _ _ _ x => x)
theorem SV.mono (h : SV w base g S L F T) (hu : ∀ k, T k → k < w.heap.size → U k) : SV w base g S L F U := by
 obtain ⟨sv, lv, fv, sok, lok, fok, h, ht⟩ := h
 exact ⟨sv, lv, fv, sok, lok, fok, h, fun k hk => ⟨hu k (ht k hk).1 (ht k hk).2, (ht k hk).2⟩⟩
theorem SV.base_le (h : SV w base g S L F T) : base ≤ w.heap.size := by
 obtain ⟨sv, lv, fv, sok, lok, fok, h, ht⟩ := h
 exact h.base_le
end
end Go.Proofs.Ytonmlncejikbiaa.Q
