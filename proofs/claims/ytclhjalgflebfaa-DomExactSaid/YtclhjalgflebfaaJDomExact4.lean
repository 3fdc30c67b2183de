/- What the row of DomExact rests on, part 4: contracts of the functions that it reaches, and the plain law. -/
import Derived.Test.YtclhjalgflebfaaJDomExact3
/- Is, Nearest and Under are the document's. -/
namespace Go.Proofs.Ytclhjalgflebfaa.Q
open Go.RowKit Go.Proofs.YtclhjalgflebfaaW.PrintWords Go.Proofs.YtclhjalgflebfaaW.PrintLast Go.Proofs.YtclhjalgflebfaaW.PrintMore
set_option linter.unusedVariables false
set_option linter.unusedSimpArgs false
theorem ws_ (A C : Nat) (hA : A ≤ 200000) (hC : C ≤ 200000) : wrap64 ((A : Int) - (C : Int) + 1) = ((A + 1 : Nat) : Int) - (C : Int) := by
 have h := wrap_small (x := (A : Int) - (C : Int) + 1) (by omega) (by omega)
 rw [h, Int.natCast_add]
 omega
theorem wk_ (k : Nat) (h1 : k ≤ 100000) : wrap64 ((k : Int) + 1) = ((k + 1 : Nat) : Int) := (wrap_small (by omega) (by omega)).trans (by omega)
theorem wp_ (k : Nat) (h0 : 0 < k) (h1 : k ≤ 100000) : wrap64 ((k : Int) - 1) = ((k - 1 : Nat) : Int) := (wrap_small (by omega) (by omega)).trans (by omega)
theorem wc_ (A C : Nat) (hA : A ≤ 200000) (hC : C ≤ 200000) : wrap64 ((A : Int) - (C : Int) - 1) = (A : Int) - ((C + 1 : Nat) : Int) := by
 have h := wrap_small (x := (A : Int) - (C : Int) - 1) (by omega) (by omega)
 rw [h, Int.natCast_add]
 omega
section
variable (a0 : ByteArray) (l1 : List ByteArray) (a2 : ByteArray) (l3 : List ByteArray) (l4 : List S58) (l : List S40)
theorem exact_end (m : List Int) (u : List (List Int)) (x1 x2 : Int) (hml : m.length = l.length) (hl : l.length ≤ 1000000) (q : Bool) (hI : dom_Is.f a0 l1 a2 l3 l4 l x1 x2 = some q) (hout : ¬ (0 ≤ x1 ∧ x1 < (l.length : Int) ∧ 0 ≤ x2 ∧ x2 < (l.length : Int)) → q = false)
  (hin : ∀ a b : Nat, x1 = a → x2 = b → a < l.length → b < l.length → (rowI l a).getD b false = q) : Ev (fun n => truantlaw10_DomExact.l0 n x1 x2 m m u 0 (l.length : Int) a0 l1 a2 l3 l4 l) true := by
 have hlen : ((List.range l.length).map (rowI l)).length = l.length := by simp
 have hR : truantref10_Is.f a0 l1 a2 l3 l4 l = some ((List.range l.length).map (rowI l)) := if_pos hl
 refine Ev.step (fun k => rfl) (Ev.neg (by omega) ?_)
 by_cases h1 : x1 ≥ 0
 ·refine Ev.pos h1 ?_
  by_cases h2 : x1 < (m.length : Int)
  ·refine Ev.pos h2 ?_
   by_cases h3 : x2 ≥ 0
   ·refine Ev.pos h3 (Ev.pos rfl (Ev.one hI ?_))
    by_cases h4 : x2 < (m.length : Int)
    ·obtain ⟨a, rfl⟩ : ∃ a : Nat, x1 = a := ⟨x1.toNat, by omega⟩
     obtain ⟨b, rfl⟩ : ∃ b : Nat, x2 = b := ⟨x2.toNat, by omega⟩
     have hc := hin a b rfl rfl (by omega) (by omega)
     refine Ev.pos h4 (Ev.one hR (Ev.pos h1 (Ev.pos (by omega) (Ev.pos h3 (Ev.pos (by rw [isRow' l (by omega), rowI_len']; omega) ?_)))))
     rw [isRow' l (by omega), rdOf_nat, hc]
     exact Ev.eq (Ev.now _) (by simp)
    ·refine Ev.neg h4 ?_
     rw [hout (by omega)]
     exact Ev.now _
   ·refine Ev.neg h3 (Ev.pos rfl (Ev.one hI ?_))
    rw [hout (by omega)]
    exact Ev.now _
  ·refine Ev.neg h2 (Ev.pos rfl (Ev.one hI ?_))
   rw [hout (by omega)]
   exact Ev.now _
 ·refine Ev.neg h1 (Ev.pos rfl (Ev.one hI ?_))
  rw [hout (by omega)]
  exact Ev.now _
set_option maxHeartbeats 2000000 in
theorem exact_l1 (m : List Int) (u : List (List Int)) (x1 x2 : Int) (i : Nat) (hi : i < l.length) (hml : m.length = l.length) (hul : u.length = l.length) (hl : l.length ≤ 1000) (hR : rd_L2 u (i : Int) = underTo m i l.length) (S C : Nat) (hS : S ≤ 100000) (hC : C ≤ l.length)
  (hm : rd m (i : Int) = -1 ∨ 0 ≤ rd m (i : Int)) (hnext : Ev (fun n => truantlaw10_DomExact.l0 n x1 x2 m m u (((S + (underTo m i l.length).length : Nat) : Int) - ((if rd m (i : Int) = -1 then C else C + 1 : Nat) : Int)) ((i + 1 : Nat) : Int) a0 l1 a2 l3 l4 l) true) :
  ∀ (d k : Nat), (underTo m i l.length).length - k = d → k ≤ (underTo m i l.length).length → Ev (fun n => truantlaw10_DomExact.l1 n x1 x2 m m u (((S + k : Nat) : Int) - (C : Int)) (i : Int) (k : Int) a0 l1 a2 l3 l4 l) true := by
 have hle := under_len m i l.length
 have hmem := under_mem m i l.length
 have hup := under_up m i l.length
 obtain ⟨U, hU⟩ : ∃ U, U = underTo m i l.length := ⟨_, rfl⟩
 rw [← hU] at hR hnext hle hmem hup ⊢
 have wi : wrap64 ((i : Int) + 1) = ((i + 1 : Nat) : Int) := by rw [wrap_small (by omega) (by omega)]; omega
 intro d
 induction d with
 | zero =>
  intro k hd hk
  have e : k = U.length := by omega
  subst e
  refine Ev.step (fun k => rfl) (Ev.pos (by omega) (Ev.pos (by omega) (Ev.neg (by rw [hR]; omega) (Ev.pos (by omega) ?_))))
  rw [wi]
  rcases hm with h1 | h1
  ·rw [if_pos h1] at hnext
   exact Ev.neg (by omega) hnext
  ·rw [if_neg (by omega)] at hnext
   have wc : wrap64 (((S + U.length : Nat) : Int) - (C : Int) - 1) = ((S + U.length : Nat) : Int) - ((C + 1 : Nat) : Int) := wc_ (S + U.length) C (by omega) (by omega)
   refine Ev.pos h1 ?_
   rw [wc]
   exact hnext
 | succ d ih =>
  intro k hd hk
  have hlt : k < U.length := by omega
  have h7 := ih (k + 1) (by omega) (by omega)
  have c1 : (i : Int) < (u.length : Int) := by omega
  have c2 : (k : Int) < (U.length : Int) := by omega
  have c3 : ((k - 1 : Nat) : Int) < (U.length : Int) := by omega
  have c4 : k - 1 < U.length := by omega
  have c5 : m.length = l.length := hml
  have c6 : S + k ≤ 200000 := by omega
  have c7 : C ≤ 200000 := by omega
  have c8 : k ≤ 100000 := by omega
  have wk : wrap64 ((k : Int) + 1) = ((k + 1 : Nat) : Int) := wk_ k c8
  have ws : wrap64 (((S + k : Nat) : Int) - (C : Int) + 1) = ((S + (k + 1) : Nat) : Int) - (C : Int) := ws_ (S + k) C c6 c7
  have wp : 0 < (k : Int) → wrap64 ((k : Int) - 1) = ((k - 1 : Nat) : Int) := fun hk0 => wp_ k (Int.natCast_pos.mp hk0) c8
  clear hi hml hul hl hS hC hm hnext ih hd hk hle wi
  refine Ev.step (fun k => rfl) (Ev.pos (Int.natCast_nonneg _) (Ev.pos c1 (Ev.pos (by rw [hR]; exact c2) (Ev.pos (Int.natCast_nonneg _) ?_))))
  rw [hR, wk, ws]
  obtain ⟨y, hy⟩ : ∃ y, y = U[k] := ⟨_, rfl⟩
  have hrd : rd U (k : Int) = y := by unfold rd; rw [Int.toNat_natCast, getD_at _ _ hlt, hy]
  obtain ⟨y0, y1, y2⟩ := hmem y (by rw [hy]; exact List.getElem_mem hlt)
  rw [hrd]
  rw [← c5] at y1
  refine Ev.neg (Int.not_lt.mpr y0) (Ev.neg (fun h => Int.not_lt.mpr h y1) (Ev.pos y0 (Ev.pos y1 (Ev.pos y2 ?_))))
  by_cases hk0 : (k : Int) > 0
  ·have hrp : rd U ((k - 1 : Nat) : Int) < y := by
    unfold rd
    rw [Int.toNat_natCast, getD_at _ _ c4, hy]
    exact List.pairwise_iff_getElem.mp hup _ _ c4 hlt (by clear y2 hrd wk ws wp; omega)
   rw [wp hk0]
   exact Ev.pos hk0 (Ev.pos (Int.natCast_nonneg _) (Ev.pos c3 (Ev.neg (fun h => Int.not_lt.mpr h hrp) h7)))
  ·exact Ev.neg hk0 h7
end
theorem DomExact_pure : DomExact.Pure := by
 intro a0 l1 a2 l3 l4 l x1 x2 hwf hw1 hw2
 have hev : Ev (fun k => truantlaw10_DomExact.f k a0 l1 a2 l3 l4 l x1 x2) true := by
  unfold truantlaw10_DomExact.f
  refine Ev.bind awake_true (Ev.pos rfl ?_)
  refine Ev.one (show truantlaw10_wide.f a0 l1 a2 l3 l4 l = some (decide ((l.length : Int) > 30)) from rfl) ?_
  by_cases hw : (l.length : Int) > 30
  ·exact Ev.pos (decide_eq_true hw) (Ev.now _)
  ·refine Ev.neg (by rw [decide_eq_false hw]; simp) ?_
   have hl : l.length ≤ 30 := by omega
   by_cases hn : 1 ≤ l.length
   ·obtain ⟨o, at_, nr, s, out, D, hg, hR, hF, hS, _⟩ := dm_all a0 l1 a2 l3 l4 l hn hl
    have hs : reachL l = s := reachL_is D hR
    have hI : dom_Is.f a0 l1 a2 l3 l4 l x1 x2 = some (decB (DI l at_ x1 x2)) := is_all a0 l1 a2 l3 l4 l D hg x1 x2
    have hN : dom_Nearest.f a0 l1 a2 l3 l4 l = some (nr.set 0 (-1)) := by
     unfold dom_Nearest.f
     rw [if_neg (by omega), hg]
     rfl
    have hRN := refNear a0 l1 a2 l3 l4 l D hs (by omega) (by omega)
    obtain ⟨m, hm⟩ : ∃ m, m = nr.set 0 (-1) := ⟨_, rfl⟩
    have hml : m.length = l.length := by rw [hm, List.length_set]; exact D.gd.len
    have hmr : ∀ b : Nat, b < l.length → rd m b = -1 ∨ (0 ≤ rd m b ∧ rd m b < (l.length : Int)) := fun b hb => by
     rw [hm, rd_root D.gd.len (by omega) (by omega)]
     by_cases hz : (b : Int) = 0
     ·rw [if_pos hz]; exact .inl rfl
     ·rw [if_neg hz]
      by_cases hk : fnI l.length nr (b : Int) = -1
      ·exact .inl hk
      ·exact .inr (fnI_in (D.gd.tr.known _ (D.gd.tr.up _ hz hk).2))
    rw [← hm] at hN hRN
    clear hm
    obtain ⟨u, hu, hul, hur, hus⟩ := under_ev a0 l1 a2 l3 l4 l m hml (by omega) hmr hN
    refine Ev.one hN (Ev.bind hRN (Ev.bind hu (Ev.pos rfl (Ev.pos (by omega) ?_))))
    have hsum : ∀ b : Nat, b < l.length → sumR (u.take (b + 1)) = sumR (u.take b) + (underTo m b l.length).length := fun b hb => by
     rw [List.take_succ_eq_append_getElem (by omega)]
     have := hur b (by omega) (by omega)
     unfold rd_L2 at this
     rw [Int.toNat_natCast, getD_at _ _ (by omega)] at this
     unfold sumR
     rw [List.map_append, List.sum_append, this]
     simp
    have hle : ∀ b : Nat, b ≤ l.length → sumR (u.take b) ≤ b * 30 := fun b => by
     induction b with
     | zero => intro _; simp [sumR]
     | succ b ih => intro hb; rw [hsum b (by omega)]; have := ih (by omega); have := under_len m b l.length; omega
    have key : ∀ (d b : Nat), l.length - b = d → b ≤ l.length → Ev (fun n => truantlaw10_DomExact.l0 n x1 x2 m m u ((sumR (u.take b) : Int) - (cntM m b : Int)) (b : Int) a0 l1 a2 l3 l4 l) true := by
     intro d
     induction d with
     | zero =>
      intro b hd hb
      have e : b = l.length := by omega
      subst e
      rw [List.take_of_length_le (by omega), hus, Int.sub_self]
      refine exact_end a0 l1 a2 l3 l4 l m u x1 x2 hml (by omega) _ hI (fun h => decB_false (fun k => ?_)) (fun a b ha hb h1 h2 => ?_)
      ·have q1 := fnI_in k.1
       have q2 := fnI_in k.2.1
       omega
      ·subst ha hb
       exact cell_is D hs (by omega) (by omega) h1 h2
     | succ d ih =>
      intro b hd hb
      have h2 := ih (b + 1) (by omega) (by omega)
      rw [hsum b (by omega)] at h2
      have hS := hle b (by omega)
      have hC := cntM_le m b
      have h3 := exact_l1 a0 l1 a2 l3 l4 l m u x1 x2 b (by omega) hml hul (by omega) (hur b (by omega) (by omega)) (sumR (u.take b)) (cntM m b) (by omega) (by omega) ((hmr b (by omega)).imp id (fun h => h.1)) (by unfold cntM at h2; exact h2) _ 0 rfl (Nat.zero_le _)
      have hrb : rd m (b : Int) = rd m (b : Int) := rfl
      exact Ev.step (fun k => rfl) (Ev.pos (by omega) (Ev.pos (by omega) (Ev.pos (by omega) (Ev.pos rfl h3))))
    exact key _ 0 rfl (Nat.zero_le _)
   ·obtain rfl : l = [] := List.eq_nil_of_length_eq_zero (by omega)
    refine Ev.one (show dom_Nearest.f a0 l1 a2 l3 l4 [] = some [] from rfl) (Ev.bind (a := []) ?_ (Ev.bind (a := []) ?_ (Ev.pos rfl (Ev.pos rfl ?_))))
    ·unfold truantref10_Nearest.f
     exact Ev.one (show truantref10_Is.f a0 l1 a2 l3 l4 [] = some [] from rfl) (Ev.step (fun k => rfl) (Ev.now _))
    ·unfold dom_Under.f
     refine Ev.pos (by simp) (Ev.pos (by simp) (Ev.one (show dom_Nearest.f a0 l1 a2 l3 l4 [] = some [] from rfl) (Ev.step (fun k => rfl) (Ev.now _))))
    ·refine exact_end a0 l1 a2 l3 l4 [] [] [] x1 x2 rfl (by simp) false ?_ (fun _ => rfl) (fun a b _ _ h => by simp at h)
     unfold dom_Is.f
     rw [if_neg (by simp; omega)]
 exact hev.rounds
end Go.Proofs.Ytclhjalgflebfaa.Q

