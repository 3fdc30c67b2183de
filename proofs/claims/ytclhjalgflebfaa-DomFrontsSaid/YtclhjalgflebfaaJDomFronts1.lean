/- What the row of DomFronts rests on, part 1: contracts of the functions that it reaches, and the plain law. -/
import Derived.Test.YtclhjalgflebfaaJDomFronts0
/- Flow, plain law: the document's Next and Ahead, the code's Ahead; rows that are the same; 'wide'. -/

namespace Go.Proofs.Ytclhjalgflebfaa.Q
open Go.RowKit Go.Proofs.YtclhjalgflebfaaW.PrintWords Go.Proofs.YtclhjalgflebfaaW.PrintLast Go.Proofs.YtclhjalgflebfaaW.PrintMore
set_option linter.unusedVariables false
set_option linter.unusedSimpArgs false
theorem wrap_up {i : Nat} {n : Nat} (h : i < n) (hn : n ≤ 140737488351232) : wrap64 ((i : Int) + 1) = ((i + 1 : Nat) : Int) := by unfold wrap64; omega
section
variable (a0 : ByteArray) (l1 : List ByteArray) (a2 : ByteArray) (l3 : List ByteArray) (l4 : List S58) (l : List S40)
theorem inB_iff {n : Nat} {i : Int} : inB n i = true ↔ 0 ≤ i ∧ i < (n : Int) := by simp [inB]
theorem refNext (i : Int) : Ev (fun k => truantref09_Next.f k a0 l1 a2 l3 l4 l i) (nextOf l i) := by
 unfold truantref09_Next.f nextOf
 by_cases h0 : i < 0
 ·rw [if_neg (by omega)]
  simp only [Option.bind_some, if_pos h0]
  exact Ev.step (fun k => rfl) (Ev.now _)
 ·simp only [Option.bind_some, if_neg h0]
  by_cases h1 : i < (l.length : Int)
  ·rw [if_pos ⟨by omega, h1⟩, decide_eq_false (by omega : ¬ i ≥ (l.length : Int))]
   refine Ev.step (fun k => rfl) (Ev.pos (by omega) (Ev.pos h1 ?_))
   generalize rd_T40 l i = b
   unfold jumpTo
   have e1 : ([] : List Int).length < 17592186044416 := by simp
   have e2 : ∀ x : Int, ([x] : List Int).length < 17592186044416 := fun x => by simp
   by_cases hg : b.f1 = 1
   ·rw [if_pos hg]
    refine Ev.pos hg ?_
    by_cases hx : b.f3.f0 ≥ 0
    ·refine Ev.pos hx (Ev.step (fun k => rfl) ?_)
     by_cases hy : b.f3.f0 < (l.length : Int)
     ·refine Ev.pos (by simpa using hy) (Ev.pos e1 (Ev.neg (by omega) ?_))
      have : inB l.length b.f3.f0 = true := inB_iff.mpr ⟨hx, hy⟩
      simp only [List.filter_cons, this, if_true, List.filter_nil]
      exact Ev.now _
     ·refine Ev.neg (by simpa using hy) (Ev.neg (by omega) ?_)
      have : inB l.length b.f3.f0 = false := by cases h : inB l.length b.f3.f0 with | false => rfl | true => exact absurd (inB_iff.mp h).2 hy
      simp only [List.filter_cons, this, List.filter_nil]
      exact Ev.now _
    ·refine Ev.neg hx (Ev.step (fun k => rfl) (Ev.neg (by omega) ?_))
     have : inB l.length b.f3.f0 = false := by cases h : inB l.length b.f3.f0 with | false => rfl | true => exact absurd (inB_iff.mp h).1 hx
     simp only [List.filter_cons, this, List.filter_nil]
     exact Ev.now _
   ·rw [if_neg hg]
    refine Ev.neg hg ?_
    by_cases hg2 : b.f1 = 2
    ·rw [if_pos hg2]
     refine Ev.pos hg2 ?_
     have key : ∀ (c : Bool), c = inB l.length b.f3.f0 → Ev (fun k => truantref09_Next.j1 k ([] : List Int) c a0 l1 a2 l3 l4 l b.f0 b.f1 b.f2 b.f3.f0 b.f3.f1) (List.filter (inB l.length) (if b.f3.f0 = b.f3.f1 then [b.f3.f0] else [b.f3.f0, b.f3.f1])) := by
      intro c hc
      refine Ev.step (fun k => rfl) ?_
      cases c with
      | true =>
       refine Ev.pos hg2 ?_
       by_cases he : b.f3.f1 = b.f3.f0
       ·refine Ev.pos he ?_
        rw [if_pos he.symm]
        simp only [List.filter_cons, ← hc, if_true, List.filter_nil]
        exact Ev.now _
       ·refine Ev.neg he ?_
        rw [if_neg (Ne.symm he)]
        by_cases hx : b.f3.f1 ≥ 0
        ·refine Ev.pos hx ?_
         by_cases hy : b.f3.f1 < (l.length : Int)
         ·refine Ev.pos hy ?_
          have : inB l.length b.f3.f1 = true := inB_iff.mpr ⟨hx, hy⟩
          simp only [List.filter_cons, ← hc, this, if_true, List.filter_nil]
          exact Ev.now _
         ·refine Ev.neg hy ?_
          have : inB l.length b.f3.f1 = false := by cases h : inB l.length b.f3.f1 with | false => rfl | true => exact absurd (inB_iff.mp h).2 hy
          simp only [List.filter_cons, ← hc, this, if_true, List.filter_nil]
          exact Ev.now _
        ·refine Ev.neg hx ?_
         have : inB l.length b.f3.f1 = false := by cases h : inB l.length b.f3.f1 with | false => rfl | true => exact absurd (inB_iff.mp h).1 hx
         simp only [List.filter_cons, ← hc, this, if_true, List.filter_nil]
         exact Ev.now _
      | false =>
       refine Ev.pos hg2 ?_
       by_cases he : b.f3.f1 = b.f3.f0
       ·refine Ev.pos he ?_
        rw [if_pos he.symm]
        simp only [List.filter_cons, ← hc, List.filter_nil]
        exact Ev.now _
       ·refine Ev.neg he ?_
        rw [if_neg (Ne.symm he)]
        by_cases hx : b.f3.f1 ≥ 0
        ·refine Ev.pos hx ?_
         by_cases hy : b.f3.f1 < (l.length : Int)
         ·refine Ev.pos hy ?_
          have : inB l.length b.f3.f1 = true := inB_iff.mpr ⟨hx, hy⟩
          simp only [List.filter_cons, ← hc, this, if_true, List.filter_nil]
          exact Ev.now _
         ·refine Ev.neg hy ?_
          have : inB l.length b.f3.f1 = false := by cases h : inB l.length b.f3.f1 with | false => rfl | true => exact absurd (inB_iff.mp h).2 hy
          simp only [List.filter_cons, ← hc, this, List.filter_nil]
          exact Ev.now _
        ·refine Ev.neg hx ?_
         have : inB l.length b.f3.f1 = false := by cases h : inB l.length b.f3.f1 with | false => rfl | true => exact absurd (inB_iff.mp h).1 hx
         simp only [List.filter_cons, ← hc, this, List.filter_nil]
         exact Ev.now _
     by_cases hx : b.f3.f0 ≥ 0
     ·refine Ev.pos hx (key _ ?_)
      simp [inB, hx]
     ·refine Ev.neg hx (key _ ?_)
      have : inB l.length b.f3.f0 = false := by cases h : inB l.length b.f3.f0 with | false => rfl | true => exact absurd (inB_iff.mp h).1 hx
      rw [this]
    ·rw [if_neg hg2]
     exact Ev.neg hg2 (Ev.step (fun k => rfl) (Ev.neg hg2 (Ev.now _)))
  ·rw [if_neg (by omega), decide_eq_true (by omega : i ≥ (l.length : Int))]
   exact Ev.step (fun k => rfl) (Ev.now _)
end
/-- Of the first n blocks those that lead to b. -/
def aheadTo (l : List S40) : Nat → Int → List Int
 | 0, _ => []
 | n + 1, b => aheadTo l n b ++ ((nextOf l n).filter (fun y => y == b)).map (fun _ => (n : Int))
theorem ahead_len (l : List S40) (b : Int) : ∀ n, (aheadTo l n b).length ≤ 2 * n
 | 0 => Nat.le_refl _
 | n + 1 => by
  have h1 := ahead_len l b n
  have h2 := next_len l n
  have h3 : ((nextOf l n).filter (fun y => y == b)).length ≤ (nextOf l n).length := List.length_filter_le _ _
  unfold aheadTo
  rw [List.length_append, List.length_map]
  omega
section
variable (a0 : ByteArray) (l1 : List ByteArray) (a2 : ByteArray) (l3 : List ByteArray) (l4 : List S58) (l : List S40) (hl : l.length ≤ 1099511627776)
include hl
/-- What Ahead holds behind n blocks: one row each. -/
def AheadIs (l : List S40) (n : Nat) (x : List (List Int)) : Prop := x.length = l.length ∧ ∀ b : Nat, b < l.length → x.getD b [] = aheadTo l n b
theorem flowAhead : ∃ x, Ev (fun k => flow_Ahead.f k a0 l1 a2 l3 l4 l) x ∧ AheadIs l l.length x := by
 unfold flow_Ahead.f
 have inner : ∀ (d j n : Nat) (acc : List (List Int)), (nextOf l n).length - j = d → j ≤ (nextOf l n).length → n < l.length → acc.length = l.length → (∀ b : Nat, b < l.length → acc.getD b [] = aheadTo l n b ++ (((nextOf l n).take j).filter (fun y => y == (b : Int))).map (fun _ => (n : Int))) →
   ∃ acc', AheadIs l (n + 1) acc' ∧ ∀ r, Ev (fun k => flow_Ahead.l0 k acc' (l.length : Int) ((n + 1 : Nat) : Int) a0 l1 a2 l3 l4 l) r → Ev (fun k => flow_Ahead.l1 k acc (n : Int) (l.length : Int) (n : Int) (nextOf l n) ((nextOf l n).length : Int) (j : Int) a0 l1 a2 l3 l4 l) r := by
  intro d
  induction d with
  | zero =>
   intro j n acc hd hj hn ha h
   refine ⟨acc, ⟨ha, fun b hb => ?_⟩, fun r hr => ?_⟩
   ·rw [h b hb, List.take_of_length_le (by omega)]
    rfl
   ·refine Ev.step (fun k => rfl) (Ev.neg (by omega) ?_)
    rw [wrap_up (n := l.length) hn (by omega)]
    exact hr
  | succ d ih =>
   intro j n acc hd hj hn ha h
   have hlt : j < (nextOf l n).length := by omega
   have h2 := next_len l n
   have hrd : rd (nextOf l n) (j : Int) = (nextOf l n)[j] := by unfold rd; rw [Int.toNat_natCast, getD_at _ _ hlt]
   have hin := next_in (List.getElem_mem hlt)
   obtain ⟨y, hy⟩ : ∃ y : Nat, (nextOf l n)[j] = (y : Int) := ⟨(nextOf l n)[j].toNat, by omega⟩
   rw [hy] at hin
   have hyl : y < l.length := by omega
   have hrow : rd_L2 acc (y : Int) = aheadTo l n y ++ (((nextOf l n).take j).filter (fun z => z == (y : Int))).map (fun _ => (n : Int)) := by unfold rd_L2; rw [Int.toNat_natCast, h y hyl]
   have h1 := ahead_len l y n
   have h3 : (((nextOf l n).take j).filter (fun z => z == (y : Int))).length ≤ 2 := by
    refine Nat.le_trans (List.length_filter_le _ _) ?_
    rw [List.length_take]
    omega
   have hlen : (rd_L2 acc (y : Int)).length < 17592186044416 := by rw [hrow, List.length_append, List.length_map]; omega
   obtain ⟨acc', hA, hE⟩ := ih (j + 1) n (acc.set y (rd_L2 acc (y : Int) ++ [(n : Int)])) (by omega) (by omega) hn (by simpa using ha) (fun b hb => by
    rw [List.take_succ_eq_append_getElem hlt, List.filter_append, List.map_append, ← List.append_assoc, ← h b hb, hy]
    by_cases hbe : y = b
    ·subst hbe
     simp only [List.getD]
     rw [List.getElem?_set_self (by omega)]
     simp [rd_L2, List.getD]
    ·simp only [List.getD]
     rw [List.getElem?_set_ne hbe]
     have : ¬ ((y : Int) == (b : Int)) = true := by simp; omega
     simp [List.filter_cons, this])
   refine ⟨acc', hA, fun r hr => ?_⟩
   refine Ev.step (fun k => rfl) (Ev.pos (by omega) (Ev.pos (by omega) (Ev.pos (by omega) ?_)))
   rw [hrd, hy, wrap_up (n := (nextOf l n).length) hlt (by omega), Int.toNat_natCast]
   exact Ev.pos (by omega) (Ev.pos (by omega) (Ev.pos hlen (hE r hr)))
 have outer : ∀ (d n : Nat) (acc : List (List Int)), l.length - n = d → n ≤ l.length → AheadIs l n acc → ∃ x, Ev (fun k => flow_Ahead.l0 k acc (l.length : Int) (n : Int) a0 l1 a2 l3 l4 l) x ∧ AheadIs l l.length x := by
  intro d
  induction d with
  | zero =>
   intro n acc hd hn ha
   rw [show n = l.length by omega] at ha ⊢
   exact ⟨acc, Ev.step (fun k => rfl) (Ev.neg (by omega) (Ev.now _)), ha⟩
  | succ d ih =>
   intro n acc hd hn ha
   obtain ⟨acc', hA, hE⟩ := inner _ 0 n acc rfl (Nat.zero_le _) (by omega) ha.1 (fun b hb => by rw [ha.2 b hb]; simp)
   obtain ⟨x, hx, hx2⟩ := ih (n + 1) acc' (by omega) (by omega) hA
   exact ⟨x, Ev.step (fun k => rfl) (Ev.pos (by omega) (hE x hx)), hx2⟩
 obtain ⟨x, hx, hx2⟩ := outer _ 0 (List.replicate l.length []) rfl (Nat.zero_le _) ⟨by simp, fun b hb => by simp [List.getD, hb, aheadTo]⟩
 refine ⟨x, Ev.pos (by omega) (Ev.pos (by omega) ?_), hx2⟩
 rw [Int.toNat_natCast]
 exact hx
end
end Go.Proofs.Ytclhjalgflebfaa.Q

/- 'dom.meet', 'is': by hand. -/

namespace Go.Proofs.Ytclhjalgflebfaa.Q
open Go.RowKit Go.Proofs.YtclhjalgflebfaaW.PrintWords Go.Proofs.YtclhjalgflebfaaW.PrintLast Go.Proofs.YtclhjalgflebfaaW.PrintMore
set_option linter.unusedVariables false
set_option linter.unusedSimpArgs false
/-- The nearest ones upwards, as long as they stand behind a place. -/
def upO (at_ nr : List Int) : Nat → Int → Int → Option Int
 | 0, _, _ => none
 | k + 1, lim, a => if 0 ≤ a ∧ a < (at_.length : Int) then (if lim < rd at_ a then (if a < (nr.length : Int) then upO at_ nr k lim (rd nr a) else none) else some a) else none
/-- The nearest one that dominates two. -/
def meetO (at_ nr : List Int) : Nat → Int → Int → Option Int
 | 0, _, _ => none
 | k + 1, a, b => if a = b then some a else if 0 ≤ b ∧ b < (at_.length : Int) then
   (upO at_ nr k (rd at_ b) a).bind fun a' => if 0 ≤ a' ∧ a' < (at_.length : Int) then (upO at_ nr k (rd at_ a') b).bind fun b' => meetO at_ nr k a' b' else none
  else none
/-- Whether a block stands on the way up from another one. -/
def onO (nr : List Int) : Nat → Int → Int → Option Bool
 | 0, _, _ => none
 | k + 1, a, b => if b = -1 then some (b == a) else if b = a then some true else if 0 ≤ b ∧ b < (nr.length : Int) then onO nr k a (rd nr b) else none
def isO (at_ nr : List Int) (K : Nat) (a b : Int) : Option Bool :=
 if 0 ≤ a ∧ a < (at_.length : Int) then (if rd at_ a = -1 then some false else if 0 ≤ b ∧ b < (at_.length : Int) then (if rd at_ b = -1 then some false else onO nr K a b) else none) else none
section
variable {W : World} {bt : Nat} {v0 v2 : Value} {Aa An : Option Addr} {ca cn : Nat} {at_ nr : List Int}
/-- What the tree's block holds. -/
def TBlk (W : World) (bt : Nat) (v0 : Value) (Aa : Option Addr) (na ca : Nat) (v2 : Value) (An : Option Addr) (nn cn : Nat) : Prop := W.heap[bt]? = some (.cells #[v0, .slice Aa na ca, v2, .slice An nn cn] 94 (0, 0))
set_option maxRecDepth 100000 in
set_option maxHeartbeats 2000000 in
theorem meet_calls (K : Nat) (a b r : Int) (h : meetO at_ nr K a b = some r) (hb : TBlk W bt v0 Aa at_.length ca v2 An nr.length cn) (ha : (Kd.int .i64).C W Aa at_.length at_) (hn : (Kd.int .i64).C W An nr.length nr) :
  Calls Try.prog 92 #[.pointer (some ⟨bt, 0, none⟩), .int .i64 a, .int .i64 b] W fun e W' => e = .returned (.int .i64 r) ∧ Drawn0 W W' := by
 have H := Aside0.mk h; clear h
 have HB := Aside0.mk hb; clear hb
 have HA := Aside0.mk ha; clear ha
 have HN := Aside0.mk hn; clear hn
 go_enter Try.func92, Try.ntmps92
 go_wp2
 go_loopg [1, 2] K (fun kq v1 v2_ wr => ∃ a b : Int, v1 = .int .i64 a ∧ v2_ = .int .i64 b ∧ Aside0 (meetO at_ nr kq a b = some r) ∧ Aside0 (kq ≤ K) ∧ Aside0 (Drawn0 W wr))
 case atStart => exact ⟨a, b, rfl, rfl, H, ⟨Nat.le_refl _⟩, ⟨Drawn0.refl _⟩⟩
 case round =>
  clear H
  obtain ⟨a, b, rfl, rfl, H, HK, HD⟩ := hrel
  cases gk with
  | zero => exact absurd H.out (by simp [meetO])
  | succ k1 =>
   have h := H.out
   clear H
   rw [meetO] at h
   by_cases hab : a = b
   ·rw [if_pos hab] at h
    obtain rfl := Option.some.inj h
    subst hab
    go_wp2
    go_ret
    exact ⟨rfl, HD.out⟩
   ·rw [if_neg hab] at h
    split at h
    case isFalse => cases h
    rename_i hbb
    obtain ⟨a', hu1, h⟩ := Option.bind_eq_some_iff.mp h
    split at h
    case isFalse => cases h
    rename_i haa
    obtain ⟨b', hu2, h⟩ := Option.bind_eq_some_iff.mp h
    have HU1 := Aside0.mk hu1; have HU2 := Aside0.mk hu2; have HM := Aside0.mk h
    have HAA := Aside0.mk haa; have HBB := Aside0.mk hbb
    clear hu1 hu2 h haa hbb
    obtain ⟨n0, rfl⟩ := HD.out
    go_wp2
    go_loopg [1] k1 (fun kq v1 wr2 => ∃ a : Int, v1 = .int .i64 a ∧ Aside0 (upO at_ nr kq (rd at_ b) a = some a') ∧ Aside0 (kq ≤ k1) ∧ Aside0 (Drawn0 W wr2))
    case atStart => exact ⟨a, rfl, HU1, ⟨Nat.le_refl _⟩, HD⟩
    case round =>
     clear HU1 HD
     obtain ⟨a, rfl, HU1, HK1, HD⟩ := hrel
     obtain ⟨n1, rfl⟩ := HD.out
     cases gk with
     | zero => exact absurd HU1.out (by simp [upO])
     | succ k2 =>
      have h := HU1.out
      clear HU1
      rw [upO] at h
      split at h
      case isFalse => cases h
      rename_i hab2
      have hk1 := blk_cell HB.out 1
      have hk3 := blk_cell HB.out 3
      obtain ⟨ad, ea, hxa⟩ := Kd.at_int HA.out a hab2.1 hab2.2
      obtain ⟨ad', eb, hxb⟩ := Kd.at_int HA.out b HBB.out.1 HBB.out.2
      cases ea
      cases eb
      have ha0 := hab2.1
      have ha1 := hab2.2
      have hb0 := HBB.out.1
      have hb1 := HBB.out.2
      split at h
      ·rename_i hgt
       split at h
       case isFalse => cases h
       rename_i hln
       obtain ⟨adn, en, hxn⟩ := Kd.at_int HN.out a hab2.1 hln
       cases en
       have HU := Aside0.mk h; clear h
       have hd : decide (rd at_ b < rd at_ a) = true := decide_eq_true hgt
       go_wp2
       go_quiet (fail)
       go_wp2
       go_roundg k2
       case measure => have := HK1.out; omega
       case rel => exact ⟨_, by first | rfl | (simp; done), HU, ⟨by have := HK1.out; omega⟩, ⟨by first | exact ⟨_, rfl⟩ | exact HD.out.step _⟩⟩
      ·rename_i hgt
       obtain rfl := Option.some.inj h
       clear h
       have hd : decide (rd at_ b < rd at_ a) = false := decide_eq_false hgt
       go_wp2
       go_quiet (fail)
       go_wp2
       clear hd hk1 hk3 hxa hxb ha0 ha1 hb0 hb1
       go_loopg [2] k1 (fun kq v2_ wr2 => ∃ b : Int, v2_ = .int .i64 b ∧ Aside0 (upO at_ nr kq (rd at_ a) b = some b') ∧ Aside0 (kq ≤ k1) ∧ Aside0 (Drawn0 W wr2))
       case atStart => exact ⟨b, rfl, HU2, ⟨Nat.le_refl _⟩, ⟨by first | exact ⟨_, rfl⟩ | exact HD.out.step _⟩⟩
       case round =>
        clear HU2 HD
        obtain ⟨b2, rfl, HU2, HK2, HD⟩ := hrel
        obtain ⟨n2, rfl⟩ := HD.out
        cases gk with
        | zero => exact absurd HU2.out (by simp [upO])
        | succ k3 =>
         have h := HU2.out
         clear HU2
         rw [upO] at h
         split at h
         case isFalse => cases h
         rename_i hbb2
         have hk1 := blk_cell HB.out 1
         have hk3 := blk_cell HB.out 3
         obtain ⟨ad', ea, hxa⟩ := Kd.at_int HA.out a hab2.1 hab2.2
         cases ea
         obtain ⟨ad', eb, hxb⟩ := Kd.at_int HA.out b2 hbb2.1 hbb2.2
         cases eb
         have ha0 := hab2.1
         have ha1 := hab2.2
         have hb0 := hbb2.1
         have hb1 := hbb2.2
         split at h
         ·rename_i hgt2
          split at h
          case isFalse => cases h
          rename_i hln
          obtain ⟨adn, en, hxn⟩ := Kd.at_int HN.out b2 hbb2.1 hln
          cases en
          have HU := Aside0.mk h; clear h
          have hd : decide (rd at_ a < rd at_ b2) = true := decide_eq_true hgt2
          go_wp2
          go_quiet (fail)
          go_wp2
          go_roundg k3
          case measure => have := HK2.out; omega
          case rel => exact ⟨_, by first | rfl | (simp; done), HU, ⟨by have := HK2.out; omega⟩, ⟨by first | exact ⟨_, rfl⟩ | exact HD.out.step _⟩⟩
         ·rename_i hgt2
          have e := Option.some.inj h
          subst e
          clear h
          have hd : decide (rd at_ a < rd at_ b2) = false := decide_eq_false hgt2
          go_wp2
          go_quiet (fail)
          go_wp2
          go_roundg k1
          case measure => have := HK.out; omega
          case rel => exact ⟨_, _, by first | rfl | (simp; done), by first | rfl | (simp; done), HM, ⟨by have := HK.out; omega⟩, ⟨by first | exact ⟨_, rfl⟩ | exact HD.out.step _⟩⟩
set_option maxRecDepth 100000 in
set_option maxHeartbeats 2000000 in
theorem is_calls (K : Nat) (a b : Int) (r : Bool) (h : isO at_ nr K a b = some r) (hb : TBlk W bt v0 Aa at_.length ca v2 An nr.length cn) (ha : (Kd.int .i64).C W Aa at_.length at_) (hn : (Kd.int .i64).C W An nr.length nr) :
  Calls Try.prog 68 #[.pointer (some ⟨bt, 0, none⟩), .int .i64 a, .int .i64 b] W fun e W' => e = .returned (.bool r) ∧ Drawn0 W W' := by
 have HB := Aside0.mk hb; clear hb
 have HA := Aside0.mk ha; clear ha
 have HN := Aside0.mk hn; clear hn
 unfold isO at h
 split at h
 case isFalse => cases h
 rename_i hab
 have hk1 := blk_cell HB.out 1
 obtain ⟨ad, ea, hxa⟩ := Kd.at_int HA.out a hab.1 hab.2
 cases ea
 have ha0 := hab.1
 have ha1 := hab.2
 by_cases hm : rd at_ a = -1
 ·rw [if_pos hm] at h
  obtain rfl := Option.some.inj h
  clear h
  have hd : (rd at_ a == -1) = true := beq_iff_eq.mpr hm
  go_enter Try.func68, Try.ntmps68
  go_wp2
  go_ret
  exact ⟨rfl, Drawn0.refl _⟩
 ·rw [if_neg hm] at h
  have hd : (rd at_ a == -1) = false := beq_eq_false_iff_ne.mpr hm
  split at h
  case isFalse => cases h
  rename_i hbb
  obtain ⟨ad', eb, hxb⟩ := Kd.at_int HA.out b hbb.1 hbb.2
  cases eb
  have hb0 := hbb.1
  have hb1 := hbb.2
  by_cases hm2 : rd at_ b = -1
  ·rw [if_pos hm2] at h
   obtain rfl := Option.some.inj h
   clear h
   have hd2 : (rd at_ b == -1) = true := beq_iff_eq.mpr hm2
   go_enter Try.func68, Try.ntmps68
   go_wp2
   go_ret
   exact ⟨rfl, Drawn0.refl _⟩
  ·rw [if_neg hm2] at h
   have hd2 : (rd at_ b == -1) = false := beq_eq_false_iff_ne.mpr hm2
   have H := Aside0.mk h; clear h hm hm2
   go_enter Try.func68, Try.ntmps68
   go_wp2
   clear hd hd2 hk1 hxa hxb hb0 hb1
   go_loopg [2] K (fun kq v2_ wr => ∃ b : Int, v2_ = .int .i64 b ∧ Aside0 (onO nr kq a b = some r) ∧ Aside0 (kq ≤ K) ∧ Aside0 (Drawn0 W wr))
   case atStart => exact ⟨b, rfl, H, ⟨Nat.le_refl _⟩, ⟨Drawn0.refl _⟩⟩
   case round =>
    clear H hbb
    obtain ⟨b, rfl, H, HK, HD⟩ := hrel
    obtain ⟨n1, rfl⟩ := HD.out
    cases gk with
    | zero => exact absurd H.out (by simp [onO])
    | succ k1 =>
     have h := H.out
     clear H
     rw [onO] at h
     by_cases h1 : b = -1
     ·rw [if_pos h1] at h
      have e := Option.some.inj h
      clear h
      subst h1
      have E := Aside0.mk e; clear e
      go_wp2
      go_ret
      exact ⟨by rw [← E.out]; rfl, HD.out⟩
     ·rw [if_neg h1] at h
      have hq1 : (b != -1) = true := bne_iff_ne.mpr h1
      by_cases h2 : b = a
      ·rw [if_pos h2] at h
       have e := Option.some.inj h
       clear h
       subst h2 e
       have hq2 : (b != b) = false := by simp
       go_wp2
       go_ret
       exact ⟨by simp, HD.out⟩
      ·rw [if_neg h2] at h
       have hq2 : (b != a) = true := bne_iff_ne.mpr h2
       split at h
       case isFalse => cases h
       rename_i hbb
       have hb0 := hbb.1
       have hb1 := hbb.2
       have hk3 := blk_cell HB.out 3
       obtain ⟨adn, en, hxn⟩ := Kd.at_int HN.out b hbb.1 hbb.2
       cases en
       have HU := Aside0.mk h; clear h
       go_wp2
       go_roundg k1
       case measure => have := HK.out; omega
       case rel => exact ⟨_, by first | rfl | (simp; done), HU, ⟨by have := HK.out; omega⟩, ⟨by first | exact ⟨_, rfl⟩ | exact HD.out.step _⟩⟩
end
end Go.Proofs.Ytclhjalgflebfaa.Q

/- 'dom.round': by hand. -/

namespace Go.Proofs.Ytclhjalgflebfaa.Q
open Go.RowKit Go.Proofs.YtclhjalgflebfaaW.PrintWords Go.Proofs.YtclhjalgflebfaaW.PrintLast Go.Proofs.YtclhjalgflebfaaW.PrintMore
set_option linter.unusedVariables false
set_option linter.unusedSimpArgs false
def predO (at_ nr : List Int) (K : Nat) (nx p : Int) : Option Int :=
 if 0 ≤ p ∧ p < (at_.length : Int) then (if rd at_ p = -1 then some nx else if p < (nr.length : Int) then (if rd nr p = -1 then some nx else if nx = -1 then some p else meetO at_ nr K nx p) else none) else none
def rowOf (h : List (List Int)) (b : Int) : List Int := h.getD b.toNat []
def stepR (at_ : List Int) (h : List (List Int)) (K : Nat) (s : List Int × Bool) (b : Int) : Option (List Int × Bool) :=
 if 0 ≤ b ∧ b < (h.length : Int) ∧ b < (s.1.length : Int) then ((rowOf h b).foldlM (predO at_ s.1 K) (-1)).bind fun nx => some (s.1.set b.toNat nx, s.2 || (rd s.1 b != nx)) else none
def roundO (o at_ : List Int) (h : List (List Int)) (K : Nat) (nr : List Int) : Option (List Int × Bool) := if 1 ≤ o.length then (o.drop 1).foldlM (stepR at_ h K) (nr, false) else none
theorem row_at {W : World} {A : Option Addr} {n : Nat} {e : Nat} {h : List (List Int)} (hc : (Kd.slice e (Kd.int .i64)).C W A n h) (i : Int) (h0 : 0 ≤ i) (h1 : i < n) :
  ∃ ad Ai ci, A = some ad ∧ W.cell? (ad.add i.toNat) = some (.slice Ai (rowOf h i).length ci) ∧ (rowOf h i).length ≤ ci ∧ (Kd.int .i64).C W Ai (rowOf h i).length (rowOf h i) := by
 obtain ⟨ad, c, rfl, _, hk, hx⟩ := Kd.C_get hc [] i h0 h1
 obtain ⟨Ai, ci, rfl, hle, hC⟩ := hk
 have := hx 0 _ rfl
 rw [show i.toNat * (Kd.slice e (Kd.int .i64)).sz + 0 = i.toNat by show i.toNat * 1 + 0 = i.toNat; omega] at this
 exact ⟨ad, Ai, ci, rfl, this, hle, hC⟩
/-- The tree but its nearest ones: they stay, whatever is stored into block bn. -/
structure TF (W : World) (bt bn : Nat) (bo : Nat) (Aa Ah : Option Addr) (co ca ch n cn : Nat) (o at_ : List Int) (h : List (List Int)) : Prop where
 blk : TBlk W bt (.slice (some ⟨bo, 0, none⟩) o.length co) Aa at_.length ca (.slice Ah h.length ch) (some ⟨bn, 0, none⟩) n cn
 ne : bt ≠ bn
 leo : o.length ≤ co
 ord : ∀ W', KeepBut W W' bn none → (Kd.int .i64).C W' (some ⟨bo, 0, none⟩) o.length o
 atr : ∀ W', KeepBut W W' bn none → (Kd.int .i64).C W' Aa at_.length at_
 rows : ∀ W', KeepBut W W' bn none → (Kd.slice 3 (Kd.int .i64)).C W' Ah h.length h
section
variable {w W W1 : World} {bt bn : Nat} {bo : Nat} {Aa Ah : Option Addr} {co ca ch n cn : Nat} {o at_ nr : List Int} {h : List (List Int)}
theorem TF.step (t : TF W bt bn bo Aa Ah co ca ch n cn o at_ h) (k : KeepBut W W1 bn none) : TF W1 bt bn bo Aa Ah co ca ch n cn o at_ h :=
 ⟨k.blk t.blk t.ne (by simp), t.ne, t.leo, fun W' k' => t.ord W' (k.trans k' (.inl rfl)), fun W' k' => t.atr W' (k.trans k' (.inl rfl)), fun W' k' => t.rows W' (k.trans k' (.inl rfl))⟩
theorem TF.blkn {m : Nat} (t : TF W bt bn bo Aa Ah co ca ch n cn o at_ h) (hm : m = n) : TBlk W bt (.slice (some ⟨bo, 0, none⟩) o.length co) Aa at_.length ca (.slice Ah h.length ch) (some ⟨bn, 0, none⟩) m cn := by subst hm; exact t.blk
theorem TF.drewN (t : TF W bt bn bo Aa Ah co ca ch n cn o at_ h) (m : Nat) : TF (W.drewN m) bt bn bo Aa Ah co ca ch n cn o at_ h := t.step (keep_drewN (KeepBut.refl _ _ _) m)
set_option maxRecDepth 100000 in
set_option maxHeartbeats 2000000 in
theorem round_calls (K : Nat) (nr' : List Int) (r : Bool) (h0 : roundO o at_ h K nr = some (nr', r)) (hB : Below w.heap.size w W) (t : TF W bt bn bo Aa Ah co ca ch nr.length cn o at_ h)
  (hn : (Kd.int .i64).R 3 W w.heap.size (fun _ => True) (.slice (some ⟨bn, 0, none⟩) nr.length cn) nr) :
  Calls Try.prog 78 #[.pointer (some ⟨bt, 0, none⟩)] W fun e W' => e = .returned (.bool r) ∧ Below w.heap.size w W' ∧ TF W' bt bn bo Aa Ah co ca ch nr'.length cn o at_ h ∧
   (Kd.int .i64).R 3 W' w.heap.size (fun _ => True) (.slice (some ⟨bn, 0, none⟩) nr'.length cn) nr' ∧ nr'.length = nr.length := by
 unfold roundO at h0
 split at h0
 case isFalse => cases h0
 rename_i hol
 have H := Aside0.mk h0; clear h0
 have HB := Aside0.mk hB; clear hB
 have HT := Aside0.mk t; clear t
 have HN := Aside0.mk hn; clear hn
 have hk0 := blk_cell HT.out.blk 0
 have hlo := HT.out.leo
 by_cases hc1 : co = 1
 ·have ho1 : o.length = 1 := by omega
  have hf := H.out
  rw [List.drop_eq_nil_of_le (by omega)] at hf
  have e := Option.some.inj hf
  simp only [Prod.mk.injEq] at e
  obtain ⟨e1, e2⟩ := e
  subst e1 e2
  clear hf H
  subst hc1
  have hd : decide ((0 : Int) < ((o.length - 1 : Nat) : Int)) = false := decide_eq_false (by omega)
  go_enter Try.func78, Try.ntmps78
  go_wp2
  go_loopg [3, 15] 1 (fun kq v3 v15 wr => v3 = .bool false ∧ v15 = .int .i64 0 ∧ Aside0 (wr = W))
  case atStart => exact ⟨rfl, rfl, ⟨rfl⟩⟩
  case round =>
   obtain ⟨rfl, rfl, HW⟩ := hrel
   obtain rfl := HW.out
   go_wp2
   go_ret
   exact ⟨rfl, HB.out, HT.out, by first | exact ⟨HN.out, rfl⟩ | exact HN.out⟩
 ·have hc2 : 1 ≤ o.length := hol
  go_enter Try.func78, Try.ntmps78
  go_wp2
  go_loopg [3, 15] o.length (fun kq v3 v15 wr => ∃ (i : Nat) (nx : List Int) (b : Bool), v3 = .bool b ∧ v15 = .int .i64 i ∧ i + kq = o.length ∧ Aside0 (((o.drop 1).drop i).foldlM (stepR at_ h K) (nx, b) = some (nr', r)) ∧ Aside0 (nx.length = nr.length) ∧ Aside0 (Below w.heap.size w wr) ∧ Aside0 (TF wr bt bn bo Aa Ah co ca ch nr.length cn o at_ h) ∧
    Aside0 ((Kd.int .i64).R 3 wr w.heap.size (fun _ => True) (.slice (some ⟨bn, 0, none⟩) nr.length cn) nx))
  case atStart => exact ⟨0, nr, false, rfl, rfl, by omega, H, ⟨rfl⟩, HB, HT, HN⟩
  case round =>
   clear H HB HT HN hk0
   obtain ⟨i, nx, b, rfl, rfl, hik, H, HL, HB, HT, HN⟩ := hrel
   by_cases hlt : i + 1 < o.length
   ·obtain ⟨k1, rfl⟩ : ∃ k1, gk = k1 + 1 := ⟨gk - 1, by omega⟩
    obtain ⟨ad, ea, hx⟩ := Kd.at_int (HT.out.ord wr (KeepBut.refl _ _ _)) ((i + 1 : Nat) : Int) (by omega) (by omega)
    cases ea
    have hf := H.out
    clear H
    obtain ⟨x, ex⟩ : ∃ x, x = rd o ((i + 1 : Nat) : Int) := ⟨_, rfl⟩
    rw [← ex, show (Addr.add ⟨bo, 0, none⟩ ((i + 1 : Nat) : Int).toNat) = ⟨bo, 1 + i, none⟩ by rw [Int.toNat_natCast, Nat.add_comm]; simp [Addr.add]] at hx
    have hd : (o.drop 1).drop i = x :: (o.drop 1).drop (i + 1) := by
     rw [ex]; unfold rd
     rw [Int.toNat_natCast, getD_at _ _ hlt, List.drop_drop, List.drop_drop, show 1 + (i + 1) = (1 + i) + 1 by omega, show 1 + i = i + 1 by omega, List.drop_eq_getElem_cons hlt]
    rw [hd, List.foldlM_cons] at hf
    obtain ⟨⟨nx2, b2⟩, hs, hf2⟩ := Option.bind_eq_some_iff.mp hf
    have HF2 := Aside0.mk hf2
    clear hf hf2 hd ex
    unfold stepR at hs
    split at hs
    case isFalse => cases hs
    rename_i hxb
    obtain ⟨y, hy, hs⟩ := Option.bind_eq_some_iff.mp hs
    have e := Option.some.inj hs
    clear hs
    simp only [Prod.mk.injEq] at e
    obtain ⟨e1, e2⟩ := e
    simp only at hxb hy e1 e2
    subst e1 e2
    have HY := Aside0.mk hy; clear hy
    obtain ⟨hx0, hx1, hx2⟩ := hxb
    obtain ⟨adr, Ai, ci, er, hrow, hrl, hrC⟩ := row_at (HT.out.rows wr (KeepBut.refl _ _ _)) x hx0 hx1
    cases er
    have HRC := Aside0.mk hrC; clear hrC
    have hk2 := blk_cell HT.out.blk 2
    go_wp2
    go_loopg [6, 27] (rowOf h x).length (fun kq v6 v27 wr2 => ∃ (j : Nat) (nx1 : Int), v6 = .int .i64 nx1 ∧ v27 = .int .i64 j ∧ j + kq = (rowOf h x).length ∧ Aside0 (((rowOf h x).drop j).foldlM (predO at_ nx K) nx1 = some y) ∧ Aside0 (Drawn0 wr wr2))
    case atStart => exact ⟨0, -1, rfl, rfl, Nat.zero_add _, HY, ⟨Drawn0.refl _⟩⟩
    case round =>
     clear HY hx hrow hk2
     obtain ⟨j, nx1, rfl, rfl, hjk, HY, HD⟩ := hrel
     obtain ⟨n1, rfl⟩ := HD.out
     have hnC := (Kd.R_reads' HN.out).2.2
     have HNC := Aside0.mk hnC; clear hnC
     have hnl := HL.out
     have hrm := Kd.C_max HRC.out
     by_cases hj : j < (rowOf h x).length
     ·obtain ⟨k2, rfl⟩ : ∃ k2, gk = k2 + 1 := ⟨gk - 1, by omega⟩
      obtain ⟨adp, ep, hp⟩ := Kd.at_int HRC.out (j : Int) (by omega) (by omega)
      cases ep
      obtain ⟨q, eq⟩ : ∃ q, q = rd (rowOf h x) (j : Int) := ⟨_, rfl⟩
      rw [← eq, Int.toNat_natCast] at hp
      have hd : (rowOf h x).drop j = q :: (rowOf h x).drop (j + 1) := by
       rw [eq]; unfold rd
       rw [Int.toNat_natCast, getD_at _ _ hj, List.drop_eq_getElem_cons hj]
      have hf := HY.out
      clear HY
      rw [hd, List.foldlM_cons] at hf
      obtain ⟨nx2, hs, hf2⟩ := Option.bind_eq_some_iff.mp hf
      have HF3 := Aside0.mk hf2
      clear hf hf2 hd eq
      unfold predO at hs
      split at hs
      case isFalse => cases hs
      rename_i hq
      have hk1 := blk_cell HT.out.blk 1
      have hk3 := blk_cell HT.out.blk 3
      obtain ⟨ada, ea, hxa⟩ := Kd.at_int (HT.out.atr wr (KeepBut.refl _ _ _)) q hq.1 hq.2
      cases ea
      have hq0 := hq.1
      have hq1 := hq.2
      by_cases h1 : rd at_ q = -1
      ·rw [if_pos h1] at hs
       have e := Option.some.inj hs
       clear hs
       subst e
       have hd1 : (rd at_ q == -1) = true := beq_iff_eq.mpr h1
       go_wp2
       go_roundg k2
       case measure => omega
       case rel => exact ⟨j + 1, _, by first | rfl | (simp; done), by go_num, by omega, HF3, HD⟩
      ·rw [if_neg h1] at hs
       have hd1 : (rd at_ q == -1) = false := beq_eq_false_iff_ne.mpr h1
       split at hs
       case isFalse => cases hs
       rename_i hqn
       rw [hnl] at hqn
       have hxn : wr.cell? ⟨bn, q.toNat, none⟩ = some (.int .i64 (rd nx q)) := (Kd.R_celln 0 HN.out q hq0 hqn).1
       by_cases h2 : rd nx q = -1
       ·rw [if_pos h2] at hs
        have e := Option.some.inj hs
        clear hs
        subst e
        have hd2 : (rd nx q == -1) = true := beq_iff_eq.mpr h2
        go_wp2
        go_roundg k2
        case measure => omega
        case rel => exact ⟨j + 1, _, by first | rfl | (simp; done), by go_num, by omega, HF3, HD⟩
       ·rw [if_neg h2] at hs
        have hd2 : (rd nx q == -1) = false := beq_eq_false_iff_ne.mpr h2
        by_cases h3 : nx1 = -1
        ·rw [if_pos h3] at hs
         have e := Option.some.inj hs
         clear hs
         subst e h3
         go_wp2
         go_roundg k2
         case measure => omega
         case rel => exact ⟨j + 1, _, by first | rfl | (simp; done), by go_num, by omega, HF3, HD⟩
        ·rw [if_neg h3] at hs
         have hd3 : (nx1 == -1) = false := beq_eq_false_iff_ne.mpr h3
         have HS := Aside0.mk hs; clear hs
         have HBK := Aside0.mk (TF.blkn (TF.drewN HT.out n1) hnl)
         go_wp2_with fail
         refine (meet_calls K nx1 q nx2 HS.out HBK.out (HT.out.atr _ (keep_drewN (KeepBut.refl _ _ _) _)) (Kd.C_drewN HNC.out _)).mono ?_
         rintro e w4 ⟨rfl, hd4⟩
         have HD4 : Aside0 (Drawn0 wr w4) := ⟨by obtain ⟨m, rfl⟩ := hd4; exact HD.out.step m⟩
         clear hd4 hk1 hk3 hxa hxn hp
         go_wp2
         go_roundg k2
         case measure => omega
         case rel => exact ⟨j + 1, _, by first | rfl | (simp; done), by go_num, by omega, HF3, HD4⟩
     ·have hje : j = (rowOf h x).length := by omega
      have hf := HY.out
      rw [List.drop_eq_nil_of_le (by omega)] at hf
      have e := Option.some.inj hf
      clear hf HY
      subst e
      have hom := Kd.C_max (HT.out.ord wr (KeepBut.refl _ _ _))
      have hk3 := blk_cell HT.out.blk 3
      have hx2' : x < (nr.length : Int) := by rw [← hnl]; exact hx2
      obtain ⟨hc1', hc2'⟩ := Kd.R_celln 0 HN.out x hx0 hx2'
      replace hc1' : wr.cell? ⟨bn, x.toNat, none⟩ = some (.int .i64 (rd nx x)) := hc1'
      obtain ⟨hp1, hp2⟩ := Kd.R_putg (Kd.R_drewN HN.out n1) x nx1
      have hTN := TF.step (TF.drewN HT.out n1) (KeepBut.set_ (KeepBut.refl (wr.drewN n1) bn none) x.toNat (.int .i64 nx1))
      have HTN := Aside0.mk hTN; clear hTN
      have HP := Aside0.mk hp1; clear hp1
      have HBN := Aside0.mk (Below.grown (pw_below_drewN HB.out n1) hp2 HB.out.size (fun k hk => by injection hk with hk; rw [← hk]; exact Kd.R_base HN.out bn rfl))
      clear hp2
      have hset : (nx.set x.toNat nx1).length = nr.length := by rw [List.length_set]; exact hnl
      rcases hb : b with _ | _
      ·subst hb
       go_wp2
       go_roundg k1
       case measure => omega
       case rel => exact ⟨i + 1, nx.set x.toNat nx1, (false || (rd nx x != nx1)), by first | rfl | (simp; done), by go_num, by omega, HF2, ⟨hset⟩, HBN, HTN, HP⟩
      ·subst hb
       go_wp2
       go_roundg k1
       case measure => omega
       case rel => exact ⟨i + 1, nx.set x.toNat nx1, (true || (rd nx x != nx1)), by first | rfl | (simp; done), by go_num, by omega, HF2, ⟨hset⟩, HBN, HTN, HP⟩
   ·have hf := H.out
    rw [List.drop_eq_nil_of_le (by rw [List.length_drop]; omega)] at hf
    have e := Option.some.inj hf
    simp only [Prod.mk.injEq] at e
    obtain ⟨e1, e2⟩ := e
    subst e1 e2
    have hnl := HL.out
    go_wp2
    go_ret
    exact ⟨rfl, HB.out, by rw [hnl]; exact HT.out, by rw [hnl]; exact HN.out, hnl⟩
end
end Go.Proofs.Ytclhjalgflebfaa.Q

/- 'dom.grow': by hand. -/
namespace Go.Proofs.Ytclhjalgflebfaa.Q
open Go.RowKit Go.Proofs.YtclhjalgflebfaaW.PrintWords Go.Proofs.YtclhjalgflebfaaW.PrintLast Go.Proofs.YtclhjalgflebfaaW.PrintMore
set_option linter.unusedVariables false
set_option linter.unusedSimpArgs false
def placesO (o at_ : List Int) : Option (List Int) := o.zipIdx.foldlM (fun (a : List Int) (x : Int × Nat) => if 0 ≤ x.1 ∧ x.1 < (a.length : Int) then some (a.set x.1.toNat (x.2 : Int)) else none) at_
def roundsO (o at_ : List Int) (h : List (List Int)) (K : Nat) : Nat → List Int → Option (List Int)
 | 0, _ => none
 | k + 1, nr => (roundO o at_ h K nr).bind fun s => if s.2 = true then roundsO o at_ h K k s.1 else some s.1
def fuelD (n : Nat) : Nat := 4 * n + 100
/-- Of each block those that lead to it. -/
def aheadRows (l : List S40) : List (List Int) := (List.range l.length).map (fun b : Nat => aheadTo l l.length (b : Int))
theorem ahead_rows (a0 : ByteArray) (l1 : List ByteArray) (a2 : ByteArray) (l3 : List ByteArray) (l4 : List S58) (l : List S40) (hl : l.length ≤ 1000000) : ∃ k, flow_Ahead.f k a0 l1 a2 l3 l4 l = some (aheadRows l) := by
 obtain ⟨x, ⟨k, hk⟩, hx⟩ := flowAhead a0 l1 a2 l3 l4 l (by omega)
 have e : x = aheadRows l := by
  refine lists_eq [] (by rw [hx.1]; simp [aheadRows]) (fun j hj => ?_)
  rw [hx.1] at hj
  rw [hx.2 j hj]
  unfold aheadRows
  rw [getD_at _ _ (by simpa using hj)]
  simp
 exact ⟨k, by rw [← e]; exact hk k (Nat.le_refl _)⟩
/-- The tree of a function's blocks. -/
def growO (a0_0 : ByteArray) (l0_1 : List ByteArray) (a0_2 : ByteArray) (l0_3 : List ByteArray) (l0_4 : List (S58)) (l0_5 : List (S40)) : Option (List Int × List Int × List (List Int) × List Int) :=
 (flow_Order.f a0_0 l0_1 a0_2 l0_3 l0_4 l0_5).bind fun o =>
  if 1 ≤ l0_5.length ∧ l0_5.length ≤ 1000000 ∧ 1 ≤ o.length then (placesO o (List.replicate l0_5.length (-1))).bind fun at_ => (roundsO o at_ (aheadRows l0_5) (fuelD l0_5.length) (fuelD l0_5.length) ((List.replicate l0_5.length (-1)).set 0 0)).bind fun nr => some (o, at_, aheadRows l0_5, nr.set 0 (-1)) else none
/-- The tree, owned: four rows of its own. -/
structure TG (w W : World) (bt bo ba bn : Nat) (Ah : Option Addr) (co ca ch cn : Nat) (o at_ : List Int) (h : List (List Int)) (nr : List Int) : Prop where
 blk : TBlk W bt (.slice (some ⟨bo, 0, none⟩) o.length co) (some ⟨ba, 0, none⟩) at_.length ca (.slice Ah h.length ch) (some ⟨bn, 0, none⟩) nr.length cn
 low : w.heap.size ≤ bt
 ord : (Kd.int .i64).R 3 W w.heap.size (fun k => k ≠ ba ∧ k ≠ bn) (.slice (some ⟨bo, 0, none⟩) o.length co) o
 atr : (Kd.int .i64).R 3 W w.heap.size (fun k => k ≠ bn) (.slice (some ⟨ba, 0, none⟩) at_.length ca) at_
 ahd : Kd.S (Kd.slice 3 (Kd.int .i64)) 34 W w.heap.size (fun k => k ≠ ba ∧ k ≠ bn) (.slice Ah h.length ch) h
 nrr : (Kd.int .i64).R 3 W w.heap.size (fun k => k ≠ ba) (.slice (some ⟨bn, 0, none⟩) nr.length cn) nr
section
variable {w : World} {a0_0 a0_2 : ByteArray} {A0_1 A0_3 A0_4 A0_5 : Option Addr} {c0_1 c0_3 c0_4 c0_5 : Nat} {l0_1 l0_3 : List ByteArray} {l0_4 : List (S58)} {l0_5 : List (S40)}
theorem lowS {g : Nat} {W : World} (h : W.cell? ⟨g, 0, none⟩ = some (.string a0_0) ∧ W.cell? ⟨g, 1, none⟩ = some (.slice A0_1 l0_1.length c0_1) ∧ W.cell? ⟨g, 2, none⟩ = some (.string a0_2) ∧ W.cell? ⟨g, 3, none⟩ = some (.slice A0_3 l0_3.length c0_3) ∧ W.cell? ⟨g, 4, none⟩ = some (.slice A0_4 l0_4.length c0_4) ∧ W.cell? ⟨g, 5, none⟩ = some (.slice A0_5 l0_5.length c0_5) ∧ Below w.heap.size w W) : Below w.heap.size w W := h.2.2.2.2.2.2
theorem keepS {g : Nat} {W W1 : World} (h : W.cell? ⟨g, 0, none⟩ = some (.string a0_0) ∧ W.cell? ⟨g, 1, none⟩ = some (.slice A0_1 l0_1.length c0_1) ∧ W.cell? ⟨g, 2, none⟩ = some (.string a0_2) ∧ W.cell? ⟨g, 3, none⟩ = some (.slice A0_3 l0_3.length c0_3) ∧ W.cell? ⟨g, 4, none⟩ = some (.slice A0_4 l0_4.length c0_4) ∧ W.cell? ⟨g, 5, none⟩ = some (.slice A0_5 l0_5.length c0_5) ∧ Below w.heap.size w W) (hb : Below W.heap.size W W1) : W1.cell? ⟨g, 0, none⟩ = some (.string a0_0) ∧ W1.cell? ⟨g, 1, none⟩ = some (.slice A0_1 l0_1.length c0_1) ∧ W1.cell? ⟨g, 2, none⟩ = some (.string a0_2) ∧ W1.cell? ⟨g, 3, none⟩ = some (.slice A0_3 l0_3.length c0_3) ∧ W1.cell? ⟨g, 4, none⟩ = some (.slice A0_4 l0_4.length c0_4) ∧ W1.cell? ⟨g, 5, none⟩ = some (.slice A0_5 l0_5.length c0_5) ∧ Below w.heap.size w W1 :=
 ⟨pw_cell_below hb h.1, pw_cell_below hb h.2.1, pw_cell_below hb h.2.2.1, pw_cell_below hb h.2.2.2.1, pw_cell_below hb h.2.2.2.2.1, pw_cell_below hb h.2.2.2.2.2.1, below_step h.2.2.2.2.2.2 hb⟩
end
theorem size_up (W : World) (o : Obj) : W.heap.size ≤ (W.alloc o).heap.size := (below_alloc (Below.refl _ _) o).size
theorem rise_R {α : Type} {d : Kd α} {e base0 lo base : Nat} {W : World} {v : Value} {xs : List α} (h : d.R e W base (fun _ => True) v xs) (h0 : base0 ≤ lo) (hlo : lo ≤ base) : d.R e W base0 (fun k => lo ≤ k ∧ k < W.heap.size) v xs :=
 Kd.R_lower (Kd.R_mono (Kd.R_bound h) (fun k hk => ⟨Nat.le_trans hlo hk.2.1, hk.2.2.1⟩)) (Nat.le_trans h0 hlo)
theorem rise_S {α : Type} {d : Kd α} {e base0 lo base : Nat} {W : World} {v : Value} {xs : List α} (h : Kd.S d e W base (fun _ => True) v xs) (h0 : base0 ≤ lo) (hlo : lo ≤ base) : Kd.S d e W base0 (fun k => lo ≤ k ∧ k < W.heap.size) v xs :=
 Kd.S_lower (Kd.S_mono (Kd.S_bound h) (fun k hk => ⟨Nat.le_trans hlo hk.2.1, hk.2.2.1⟩)) (Nat.le_trans h0 hlo)
theorem lit_C {W : World} {g t : Nat} (h : W.heap[g]? = some (.cells #[.int .i64 (-1)] t (0, 0))) : (Kd.int .i64).C W (some ⟨g, 0, none⟩) ([-1] : List Int).length [-1] := by
 refine ⟨rfl, by decide, fun _ => ⟨⟨g, 0, none⟩, rfl, fun j x hj => ?_⟩⟩
 match j, hj with
 | 0, hj =>
  obtain rfl := Option.some.inj hj
  refine ⟨[.int .i64 (-1)], rfl, rfl, fun i u hu => ?_⟩
  match i, hu with
  | 0, hu => exact (blk_cell h 0).trans hu
  | i + 1, hu => simp at hu
 | j + 1, hj => simp at hj
theorem blk_newN {W : World} {o : Obj} {g : Nat} (hg : g = W.heap.size) : (W.alloc o).heap[g]? = some o := by subst hg; exact blk_new W o
theorem rep_new {n : Nat} {W : World} {g t : Nat} (h : W.heap[g]? = some (.cells #[.int .i64 (-1)] t (0, 0))) (hr : slices_Repeat_int_int.f [-1] (n : Int) = some (List.replicate n (-1))) (hp : 0 < (List.replicate n (-1 : Int)).length) :
  Calls Try.prog 54 #[.slice (some ⟨g, 0, none⟩) 1 1, .int .i64 (n : Int)] W fun e w' => ∃ b c, e = .returned (.slice (some ⟨b, 0, none⟩) (List.replicate n (-1 : Int)).length c) ∧ (Kd.int .i64).R 3 w' W.heap.size (fun _ => True) (.slice (some ⟨b, 0, none⟩) (List.replicate n (-1 : Int)).length c) (List.replicate n (-1)) ∧ Below W.heap.size W w' := by
 refine (slices_Repeat_int_int.calls (some ⟨g, 0, none⟩) 1 [-1] (n : Int) _ _ (lit_C h) (by decide) hr).mono ?_
 rintro e w' ⟨v, rfl, hR, hb⟩
 obtain ⟨b, c, rfl, -⟩ := Kd.R_form hR hp
 exact ⟨b, c, rfl, hR, hb⟩
theorem tg_make {w wo wh wa wn : World} {bo bh ba bn co ch ca cn : Nat} {o a n : List Int} {h : List (List Int)}
  (ro : (Kd.int .i64).R 3 wo w.heap.size (fun k => w.heap.size ≤ k ∧ k < wo.heap.size) (.slice (some ⟨bo, 0, none⟩) o.length co) o) (bO : Below w.heap.size w wo)
  (rh : Kd.S (Kd.slice 3 (Kd.int .i64)) 34 wh w.heap.size (fun k => wo.heap.size ≤ k ∧ k < wh.heap.size) (.slice (some ⟨bh, 0, none⟩) h.length ch) h) (bH : Below wo.heap.size wo wh)
  (ra : (Kd.int .i64).R 3 wa w.heap.size (fun k => wh.heap.size ≤ k ∧ k < wa.heap.size) (.slice (some ⟨ba, 0, none⟩) a.length ca) a) (bA : Below wh.heap.size wh wa)
  (rn : (Kd.int .i64).R 3 wn w.heap.size (fun k => wa.heap.size ≤ k ∧ k < wn.heap.size) (.slice (some ⟨bn, 0, none⟩) n.length cn) n) (bN : Below wa.heap.size wa wn) :
  TG w (wn.alloc (.cells #[.slice (some ⟨bo, 0, none⟩) o.length co, .slice (some ⟨ba, 0, none⟩) a.length ca, .slice (some ⟨bh, 0, none⟩) h.length ch, .slice (some ⟨bn, 0, none⟩) n.length cn] 94)) wn.heap.size bo ba bn (some ⟨bh, 0, none⟩) co ca ch cn o a h n ∧
   Below w.heap.size w (wn.alloc (.cells #[.slice (some ⟨bo, 0, none⟩) o.length co, .slice (some ⟨ba, 0, none⟩) a.length ca, .slice (some ⟨bh, 0, none⟩) h.length ch, .slice (some ⟨bn, 0, none⟩) n.length cn] 94)) := by
 have hA := ra.1 ba rfl
 have hN := rn.1 bn rfl
 have s1 := bO.size
 have s2 := bH.size
 have s3 := bA.size
 have s4 := bN.size
 have k1 := below_step bO (below_step bH (below_step bA bN))
 have k2 := below_step bH (below_step bA bN)
 have k3 := below_step bA bN
 refine ⟨⟨blk_new _ _, by omega, ?_, ?_, ?_, ?_⟩, below_alloc k1 _⟩
 ·exact Kd.R_alloc (Kd.R_below (Kd.R_mono ro (fun k hk => ⟨by omega, by omega⟩)) k2) _
 ·exact Kd.R_alloc (Kd.R_below (Kd.R_mono ra (fun k hk => by omega)) bN) _
 ·exact Kd.S_alloc (Kd.S_below (Kd.S_mono rh (fun k hk => ⟨by omega, by omega⟩)) k3) _
 ·exact Kd.R_alloc (Kd.R_mono rn (fun k hk => by omega)) _
theorem tg_rep {w wo wh wa wn : World} {bo bh ba bn co ch ca cn m : Nat} {o : List Int} {h : List (List Int)}
  (ro : (Kd.int .i64).R 3 wo w.heap.size (fun k => w.heap.size ≤ k ∧ k < wo.heap.size) (.slice (some ⟨bo, 0, none⟩) o.length co) o) (bO : Below w.heap.size w wo)
  (rh : Kd.S (Kd.slice 3 (Kd.int .i64)) 34 wh w.heap.size (fun k => wo.heap.size ≤ k ∧ k < wh.heap.size) (.slice (some ⟨bh, 0, none⟩) h.length ch) h) (bH : Below wo.heap.size wo wh)
  (ra : (Kd.int .i64).R 3 wa w.heap.size (fun k => wh.heap.size ≤ k ∧ k < wa.heap.size) (.slice (some ⟨ba, 0, none⟩) (List.replicate m (-1 : Int)).length ca) (List.replicate m (-1))) (bA : Below wh.heap.size wh wa)
  (rn : (Kd.int .i64).R 3 wn w.heap.size (fun k => wa.heap.size ≤ k ∧ k < wn.heap.size) (.slice (some ⟨bn, 0, none⟩) (List.replicate m (-1 : Int)).length cn) (List.replicate m (-1))) (bN : Below wa.heap.size wa wn) :
  TG w (wn.alloc (.cells #[.slice (some ⟨bo, 0, none⟩) o.length co, .slice (some ⟨ba, 0, none⟩) m ca, .slice (some ⟨bh, 0, none⟩) h.length ch, .slice (some ⟨bn, 0, none⟩) m cn] 94)) wn.heap.size bo ba bn (some ⟨bh, 0, none⟩) co ca ch cn o (List.replicate m (-1)) h (List.replicate m (-1)) ∧
   Below w.heap.size w (wn.alloc (.cells #[.slice (some ⟨bo, 0, none⟩) o.length co, .slice (some ⟨ba, 0, none⟩) m ca, .slice (some ⟨bh, 0, none⟩) h.length ch, .slice (some ⟨bn, 0, none⟩) m cn] 94)) := by
 have h := tg_make ro bO rh bH ra bA rn bN
 simp only [List.length_replicate] at h
 exact h
section
variable {w W : World} {bt bo ba bn : Nat} {Ah : Option Addr} {co ca ch cn : Nat} {o at_ nr : List Int} {h : List (List Int)}
theorem TG.neA (t : TG w W bt bo ba bn Ah co ca ch cn o at_ h nr) : bt ≠ ba := by
 obtain ⟨cs, hcs⟩ := Kd.R_typed t.atr ba rfl
 exact blk_ne t.blk hcs (by decide)
theorem TG.neN (t : TG w W bt bo ba bn Ah co ca ch cn o at_ h nr) : bt ≠ bn := by
 obtain ⟨cs, hcs⟩ := Kd.R_typed t.nrr bn rfl
 exact blk_ne t.blk hcs (by decide)
theorem TG.putA (t : TG w W bt bo ba bn Ah co ca ch cn o at_ h nr) (b x : Int) : TG w (W.setCell ⟨ba, b.toNat, none⟩ (.int .i64 x)) bt bo ba bn Ah co ca ch cn o (at_.set b.toNat x) h nr ∧ W.grownBy (W.setCell ⟨ba, b.toNat, none⟩ (.int .i64 x)) (some ba) := by
 obtain ⟨h1, h2⟩ := Kd.R_putg t.atr b x
 have hl : (at_.set b.toNat x).length = at_.length := List.length_set
 refine ⟨⟨?_, t.low, ?_, ?_, ?_, ?_⟩, h2⟩
 ·unfold TBlk
  rw [hl]
  exact blk_far t.blk t.neA _
 ·exact Kd.R_grown t.ord h2 (fun k hk e => hk.1 (Option.some.inj e))
 ·rw [hl]; exact h1
 ·exact Kd.S_grown t.ahd h2 (fun k hk e => hk.1 (Option.some.inj e))
 ·exact Kd.R_grown t.nrr h2 (fun k hk e => hk (Option.some.inj e))
theorem TG.tf (t : TG w W bt bo ba bn Ah co ca ch cn o at_ h nr) : TF W bt bn bo (some ⟨ba, 0, none⟩) Ah co ca ch nr.length cn o at_ h :=
 ⟨t.blk, t.neN, (Kd.R_reads' t.ord).2.1, Kd.C_foot_own t.ord (fun _ hk => hk.2), Kd.C_foot_own t.atr (fun _ hk => hk), Kd.C_foot_own (Kd.S_R t.ahd) (fun _ hk => hk.2)⟩
end
set_option maxRecDepth 100000 in
set_option maxHeartbeats 4000000 in
theorem grow_calls (a0_0 : ByteArray) (A0_1 : Option Addr) (c0_1 : Nat) (l0_1 : List ByteArray) (a0_2 : ByteArray) (A0_3 : Option Addr) (c0_3 : Nat) (l0_3 : List ByteArray) (A0_4 : Option Addr) (c0_4 : Nat) (l0_4 : List (S58)) (A0_5 : Option Addr) (c0_5 : Nat) (l0_5 : List (S40)) (r1 r2 : List Int) (r3 : List (List Int)) (r4 : List Int) (w : World) (hr0_1 : Kd.C Kd.string w A0_1 l0_1.length l0_1) (hc0_1 : l0_1.length ≤ c0_1) (hr0_3 : Kd.C Kd.string w A0_3 l0_3.length l0_3) (hc0_3 : l0_3.length ≤ c0_3) (hr0_4 : Kd.C k58 w A0_4 l0_4.length l0_4) (hc0_4 : l0_4.length ≤ c0_4) (hr0_5 : Kd.C k40 w A0_5 l0_5.length l0_5) (hc0_5 : l0_5.length ≤ c0_5) (h : growO a0_0 l0_1 a0_2 l0_3 l0_4 l0_5 = some (r1, r2, r3, r4)) :
  Calls Try.prog 67 #[.agg #[.string a0_0, .slice A0_1 l0_1.length c0_1, .string a0_2, .slice A0_3 l0_3.length c0_3, .slice A0_4 l0_4.length c0_4, .slice A0_5 l0_5.length c0_5]] w fun e W' => ∃ bt bo ba bn Ah co ca ch cn, e = .returned (.pointer (some ⟨bt, 0, none⟩)) ∧ TF W' bt bn bo (some ⟨ba, 0, none⟩) Ah co ca ch r4.length cn r1 r2 r3 ∧ (Kd.int .i64).R 3 W' w.heap.size (fun _ => True) (.slice (some ⟨bn, 0, none⟩) r4.length cn) r4 ∧ Below w.heap.size w W' := by
 unfold growO at h
 obtain ⟨o, ho, h⟩ := Option.bind_eq_some_iff.mp h
 split at h
 case isFalse => cases h
 rename_i hlim
 obtain ⟨hn1, hn2, ho1⟩ := hlim
 obtain ⟨ka, hh⟩ := ahead_rows a0_0 l0_1 a0_2 l0_3 l0_4 l0_5 hn2
 have hh1 : 1 ≤ (aheadRows l0_5).length := by unfold aheadRows; rw [List.length_map, List.length_range]; exact hn1
 obtain ⟨hd, hhd⟩ : ∃ hd, hd = aheadRows l0_5 := ⟨_, rfl⟩
 rw [← hhd] at h hh hh1
 clear hhd
 obtain ⟨at_, hat, h⟩ := Option.bind_eq_some_iff.mp h
 obtain ⟨nr, hnr, h⟩ := Option.bind_eq_some_iff.mp h
 have e := Option.some.inj h
 simp only [Prod.mk.injEq] at e
 obtain ⟨rfl, rfl, rfl, e4⟩ := e
 have HO := Aside0.mk ho; have HH := Aside0.mk hh; have HAT := Aside0.mk hat; have HNR := Aside0.mk hnr; have HE := Aside0.mk e4
 clear ho hh hat hnr h e4
 have hrep : slices_Repeat_int_int.f [-1] (l0_5.length : Int) = some (List.replicate l0_5.length (-1)) := by
  unfold slices_Repeat_int_int.f
  rw [if_pos ⟨rfl, by omega, by unfold LIMF; omega⟩, Int.toNat_natCast]
  rfl
 have HREP := Aside0.mk hrep; clear hrep
 have HRL : Aside0 (0 < (List.replicate l0_5.length (-1 : Int)).length) := ⟨by rw [List.length_replicate]; exact hn1⟩
 have HC1 := Aside0.mk hc0_1; have HR1 := Aside0.mk hr0_1
 have hne : ((l0_5.length : Int) == 0) = false := beq_eq_false_iff_ne.mpr (by omega)
 have hblk := blk_new w (.cells #[.string a0_0, .slice A0_1 l0_1.length c0_1, .string a0_2, .slice A0_3 l0_3.length c0_3, .slice A0_4 l0_4.length c0_4, .slice A0_5 l0_5.length c0_5] 26)
 have HBX := Aside0.mk hblk; clear hblk
 have hS : (w.alloc (.cells #[.string a0_0, .slice A0_1 l0_1.length c0_1, .string a0_2, .slice A0_3 l0_3.length c0_3, .slice A0_4 l0_4.length c0_4, .slice A0_5 l0_5.length c0_5] 26)).cell? ⟨w.heap.size, 0, none⟩ = some (.string a0_0) ∧ (w.alloc (.cells #[.string a0_0, .slice A0_1 l0_1.length c0_1, .string a0_2, .slice A0_3 l0_3.length c0_3, .slice A0_4 l0_4.length c0_4, .slice A0_5 l0_5.length c0_5] 26)).cell? ⟨w.heap.size, 1, none⟩ = some (.slice A0_1 l0_1.length c0_1) ∧ (w.alloc (.cells #[.string a0_0, .slice A0_1 l0_1.length c0_1, .string a0_2, .slice A0_3 l0_3.length c0_3, .slice A0_4 l0_4.length c0_4, .slice A0_5 l0_5.length c0_5] 26)).cell? ⟨w.heap.size, 2, none⟩ = some (.string a0_2) ∧ (w.alloc (.cells #[.string a0_0, .slice A0_1 l0_1.length c0_1, .string a0_2, .slice A0_3 l0_3.length c0_3, .slice A0_4 l0_4.length c0_4, .slice A0_5 l0_5.length c0_5] 26)).cell? ⟨w.heap.size, 3, none⟩ = some (.slice A0_3 l0_3.length c0_3) ∧ (w.alloc (.cells #[.string a0_0, .slice A0_1 l0_1.length c0_1, .string a0_2, .slice A0_3 l0_3.length c0_3, .slice A0_4 l0_4.length c0_4, .slice A0_5 l0_5.length c0_5] 26)).cell? ⟨w.heap.size, 4, none⟩ = some (.slice A0_4 l0_4.length c0_4) ∧ (w.alloc (.cells #[.string a0_0, .slice A0_1 l0_1.length c0_1, .string a0_2, .slice A0_3 l0_3.length c0_3, .slice A0_4 l0_4.length c0_4, .slice A0_5 l0_5.length c0_5] 26)).cell? ⟨w.heap.size, 5, none⟩ = some (.slice A0_5 l0_5.length c0_5) ∧ Below w.heap.size w (w.alloc (.cells #[.string a0_0, .slice A0_1 l0_1.length c0_1, .string a0_2, .slice A0_3 l0_3.length c0_3, .slice A0_4 l0_4.length c0_4, .slice A0_5 l0_5.length c0_5] 26)) := ⟨(blk_cell HBX.out 0).trans rfl, (blk_cell HBX.out 1).trans rfl, (blk_cell HBX.out 2).trans rfl, (blk_cell HBX.out 3).trans rfl, (blk_cell HBX.out 4).trans rfl, (blk_cell HBX.out 5).trans rfl, below_alloc (Below.refl _ _) _⟩
 have HS := Aside0.mk hS; clear hS
 go_enter Try.func67, Try.ntmps67
 go_upto_region 3 with fail
 go_cut [3] (fun v3 wx => ∃ bt bo ba bn Ah co ca ch cn, v3 = .pointer (some ⟨bt, 0, none⟩) ∧ Aside0 (TG w wx bt bo ba bn Ah co ca ch cn o (List.replicate l0_5.length (-1)) hd (List.replicate l0_5.length (-1))) ∧ Aside0 (Below w.heap.size w wx))
 case first =>
  go_region_held3 (fun w' => w'.cell? ⟨w.heap.size, 0, none⟩ = some (.string a0_0) ∧ w'.cell? ⟨w.heap.size, 1, none⟩ = some (.slice A0_1 l0_1.length c0_1) ∧ w'.cell? ⟨w.heap.size, 2, none⟩ = some (.string a0_2) ∧ w'.cell? ⟨w.heap.size, 3, none⟩ = some (.slice A0_3 l0_3.length c0_3) ∧ w'.cell? ⟨w.heap.size, 4, none⟩ = some (.slice A0_4 l0_4.length c0_4) ∧ w'.cell? ⟨w.heap.size, 5, none⟩ = some (.slice A0_5 l0_5.length c0_5) ∧ Below w.heap.size w w') (first | exact keepS HS.out (below_drew (Below.refl _ _)) | exact keepS (by assumption) (below_alloc (Below.refl _ _) _) | exact keepS (by assumption) (by assumption))
   (first
    | (go_at_call 22; refine (flow_Order.calls a0_0 A0_1 c0_1 l0_1 a0_2 A0_3 c0_3 l0_3 A0_4 c0_4 l0_4 A0_5 c0_5 l0_5 o _ (Kd.C_below hr0_1 (lowS (by assumption))) hc0_1 (Kd.C_below hr0_3 (lowS (by assumption))) hc0_3 (Kd.C_below hr0_4 (lowS (by assumption))) hc0_4 (Kd.C_below hr0_5 (lowS (by assumption))) hc0_5 HO.out).mono ?_; rintro e wo ⟨vo, rfl, hRo, hbc⟩; obtain ⟨bo, co, rfl, -⟩ := Kd.R_form hRo ho1; have HRO := Aside0.mk (rise_R hRo (Nat.le_refl _) (lowS (by assumption)).size); have HBO := Aside0.mk (below_step (lowS (by assumption)) hbc))
    | (go_at_call 16; refine (flow_Ahead.calls _ a0_0 A0_1 c0_1 l0_1 a0_2 A0_3 c0_3 l0_3 A0_4 c0_4 l0_4 A0_5 c0_5 l0_5 hd _ (Kd.C_below hr0_1 (lowS (by assumption))) hc0_1 (Kd.C_below hr0_3 (lowS (by assumption))) hc0_3 (Kd.C_below hr0_4 (lowS (by assumption))) hc0_4 (Kd.C_below hr0_5 (lowS (by assumption))) hc0_5 HH.out).mono ?_; rintro e wh ⟨vh, rfl, hRh, hbc⟩; obtain ⟨bh, ch, rfl, -⟩ := Kd.S_form hRh hh1; have HRH := Aside0.mk (rise_S hRh HBO.out.size (by repeat (first | exact Nat.le_refl _ | refine Nat.le_trans ?_ (size_up _ _)))); have HOH := Aside0.mk (below_step (show Below wo.heap.size wo _ from (by repeat (first | exact Below.refl _ _ | apply below_alloc))) hbc))
    | (go_at_call 54; (fail_if_success (have _t := HHA)); refine (rep_new (n := l0_5.length) (by repeat (first | (refine blk_newN ?_; first | rfl | (simp; done)) | refine blk_below ?_ (by assumption) | refine blk_alloc ?_ _)) HREP.out HRL.out).mono ?_; rintro e wa ⟨ba, ca, rfl, hRa, hbc⟩; have HRA := Aside0.mk (rise_R hRa (Nat.le_trans HBO.out.size HOH.out.size) (by repeat (first | exact Nat.le_refl _ | refine Nat.le_trans ?_ (size_up _ _)))); have HHA := Aside0.mk (below_step (show Below wh.heap.size wh _ from (by repeat (first | exact Below.refl _ _ | apply below_alloc))) hbc))
    | (go_at_call 54; refine (rep_new (n := l0_5.length) (by repeat (first | (refine blk_newN ?_; first | rfl | (simp; done)) | refine blk_below ?_ (by assumption) | refine blk_alloc ?_ _)) HREP.out HRL.out).mono ?_; rintro e wn ⟨bn, cn, rfl, hRn, hbc⟩; have HRN := Aside0.mk (rise_R hRn (Nat.le_trans HBO.out.size (Nat.le_trans HOH.out.size HHA.out.size)) (by repeat (first | exact Nat.le_refl _ | refine Nat.le_trans ?_ (size_up _ _)))); have HAN := Aside0.mk (below_step (show Below wa.heap.size wa _ from (by repeat (first | exact Below.refl _ _ | apply below_alloc))) hbc)))
  all_goals go_wp2_with fail
  all_goals go_meet
  all_goals exact ⟨_, bo, ba, bn, _, co, ca, ch, cn, rfl, ⟨(tg_rep HRO.out HBO.out HRH.out HOH.out HRA.out HHA.out HRN.out HAN.out).1⟩, ⟨(tg_rep HRO.out HBO.out HRH.out HOH.out HRA.out HHA.out HRN.out HAN.out).2⟩⟩
 case rest =>
  clear HBX HS
  obtain ⟨bt, bo, ba, bn, Ah, co, ca, ch, cn, rfl, HT, HB⟩ := hcut
  have hk0 := blk_cell HT.out.blk 0
  go_wp2
  go_loopg [31] o.length (fun kq v31 wr => ∃ (i : Nat) (a : List Int), v31 = .int .i64 i ∧ i + kq = o.length ∧ Aside0 ((o.zipIdx.drop i).foldlM (fun (a : List Int) (x : Int × Nat) => if 0 ≤ x.1 ∧ x.1 < (a.length : Int) then some (a.set x.1.toNat (x.2 : Int)) else none) a = some at_) ∧ Aside0 (Below w.heap.size w wr) ∧ Aside0 (TG w wr bt bo ba bn Ah co ca ch cn o a hd (List.replicate l0_5.length (-1))))
  case atStart => exact ⟨0, _, rfl, Nat.zero_add _, HAT, HB, HT⟩
  case round =>
   clear HB HT HAT hk0
   obtain ⟨i, a, rfl, hik, HF, HB, HT⟩ := hrel
   have hoC := (Kd.R_reads' HT.out.ord).2.2
   have hom := Kd.C_max hoC
   by_cases hlt : i < o.length
   ·obtain ⟨k1, rfl⟩ : ∃ k1, gk = k1 + 1 := ⟨gk - 1, by omega⟩
    obtain ⟨ad, ea, hx⟩ := Kd.at_int hoC (i : Int) (by omega) (by omega)
    cases ea
    obtain ⟨x, ex⟩ : ∃ x, x = rd o (i : Int) := ⟨_, rfl⟩
    have hx' : wr.cell? ⟨bo, i, none⟩ = some (.int .i64 x) := by
     rw [ex]
     have := (Kd.R_celln 0 HT.out.ord (i : Int) (by omega) (by omega)).1
     rwa [Int.toNat_natCast] at this
    clear hx
    have hd : o.zipIdx.drop i = (x, i) :: o.zipIdx.drop (i + 1) := by
     rw [ex]; unfold rd
     rw [Int.toNat_natCast, getD_at _ _ hlt, List.drop_eq_getElem_cons (by rw [List.length_zipIdx]; exact hlt), List.getElem_zipIdx]
     simp
    have hf := HF.out
    clear HF
    rw [hd, List.foldlM_cons] at hf
    obtain ⟨a2, hs, hf2⟩ := Option.bind_eq_some_iff.mp hf
    have HF2 := Aside0.mk hf2
    clear hf hf2 hd ex
    split at hs
    case isFalse => cases hs
    rename_i hxb
    have e := Option.some.inj hs
    clear hs
    subst e
    obtain ⟨hx0, hx1⟩ := hxb
    simp only at hx0 hx1
    have hk1 := blk_cell HT.out.blk 1
    obtain ⟨hca, hfa⟩ := Kd.R_celln 0 HT.out.atr x hx0 hx1
    obtain ⟨hp1, hp2⟩ := HT.out.putA x (i : Int)
    have HP := Aside0.mk hp1; clear hp1
    have HBN := Aside0.mk (Below.grown HB.out hp2 HB.out.size (fun k hk => by injection hk with hk; rw [← hk]; exact Kd.R_base HT.out.atr ba rfl))
    clear hp2
    go_wp2
    go_roundg k1
    case measure => omega
    case rel => exact ⟨i + 1, _, by go_num, by omega, HF2, HBN, HP⟩
   ·have hf := HF.out
    rw [List.drop_eq_nil_of_le (by rw [List.length_zipIdx]; omega)] at hf
    have e := Option.some.inj hf
    clear hf HF
    subst e
    have hk3 := blk_cell HT.out.blk 3
    have hz0 : (0 : Int) < ((List.replicate l0_5.length (-1 : Int)).length : Int) := by have := HRL.out; omega
    have hzl : (List.replicate l0_5.length (-1 : Int)).length = l0_5.length := List.length_replicate
    obtain ⟨hcn, hfn⟩ := Kd.R_celln 0 HT.out.nrr 0 (Int.le_refl _) hz0
    replace hcn : wr.cell? ⟨bn, 0, none⟩ = some (.int .i64 (rdOf 0 (List.replicate l0_5.length (-1)) 0)) := hcn
    replace hfn : wr.frozen? ⟨bn, 0, none⟩ = false := hfn
    obtain ⟨hp1, hp2⟩ := Kd.R_putg HT.out.nrr 0 0
    have hsl : ((List.replicate l0_5.length (-1 : Int)).set 0 0).length = l0_5.length := by rw [List.length_set, List.length_replicate]
    have hTF : TF (wr.setCell ⟨bn, 0, none⟩ (.int .i64 0)) bt bn bo (some ⟨ba, 0, none⟩) Ah co ca ch l0_5.length cn o a hd := by
     have := TF.step HT.out.tf (KeepBut.set_ (KeepBut.refl wr bn none) 0 (.int .i64 0))
     rw [hzl] at this
     exact this
    have hPR : (Kd.int .i64).R 3 (wr.setCell ⟨bn, 0, none⟩ (.int .i64 0)) w.heap.size (fun _ => True) (.slice (some ⟨bn, 0, none⟩) l0_5.length cn) ((List.replicate l0_5.length (-1)).set 0 0) := by
     have := Kd.R_mono hp1 (fun _ _ => trivial) (ok' := fun _ => True)
     rw [hzl] at this
     exact this
    have HP := Aside0.mk hPR; clear hPR hp1
    have HTF := Aside0.mk hTF; clear hTF
    have hBN : Below w.heap.size w (wr.setCell ⟨bn, 0, none⟩ (.int .i64 0)) := Below.grown HB.out hp2 HB.out.size (fun k hk => by injection hk with hk; rw [← hk]; exact Kd.R_base HT.out.nrr bn rfl)
    have HBN := Aside0.mk hBN; clear hBN
    clear hp2
    clear HT HB hoC
    go_wp2
    go_loopg [] (fuelD l0_5.length) (fun kq wr2 => ∃ nx : List Int, Aside0 (roundsO o a hd (fuelD l0_5.length) kq nx = some nr) ∧ Aside0 (nx.length = l0_5.length) ∧ Aside0 (kq ≤ fuelD l0_5.length) ∧ Aside0 (Below w.heap.size w wr2) ∧ Aside0 (TF wr2 bt bn bo (some ⟨ba, 0, none⟩) Ah co ca ch l0_5.length cn o a hd) ∧
     Aside0 ((Kd.int .i64).R 3 wr2 w.heap.size (fun _ => True) (.slice (some ⟨bn, 0, none⟩) l0_5.length cn) nx))
    case atStart => exact ⟨_, HNR, ⟨hsl⟩, ⟨Nat.le_refl _⟩, HBN, HTF, HP⟩
    case round =>
     clear HNR HBN HTF HP hcn hfn hk3
     obtain ⟨nx, HNR, HNL, HKQ, HB, HT, HN⟩ := hrel
     cases gk with
     | zero => exact absurd HNR.out (by simp [roundsO])
     | succ k1 =>
      have hf := HNR.out
      clear HNR
      rw [roundsO] at hf
      obtain ⟨⟨nx2, b⟩, hs, hf2⟩ := Option.bind_eq_some_iff.mp hf
      have hnl := HNL.out
      have HTn := HT.out
      have HNn := HN.out
      rw [← hnl] at HTn HNn
      have HF2 := Aside0.mk hf2
      have HS := Aside0.mk hs
      have HTn := Aside0.mk HTn
      have HNn := Aside0.mk HNn
      clear hf hf2 hs
      go_wp2_with fail
      refine (round_calls (fuelD l0_5.length) nx2 b HS.out HB.out HTn.out HNn.out).mono ?_
      rintro e w3 ⟨rfl, hB3, hT3, hN3, hl3⟩
      have HB3 := Aside0.mk hB3; clear hB3
      have HT3 := Aside0.mk hT3; clear hT3
      have HN3 := Aside0.mk hN3; clear hN3
      have HL3 := Aside0.mk (hl3.trans hnl); clear hl3
      cases b with
      | true =>
       have h2 := HF2.out
       simp only [if_true] at h2
       have H2 := Aside0.mk h2; clear h2 HF2
       have q1 := HT3.out; have q2 := HN3.out
       rw [HL3.out] at q1 q2
       have Q1 := Aside0.mk q1; have Q2 := Aside0.mk q2
       clear q1 q2
       go_wp2
       go_roundg k1
       case measure => have := HKQ.out; omega
       case rel => exact ⟨nx2, H2, HL3, ⟨by have := HKQ.out; omega⟩, HB3, Q1, Q2⟩
      | false =>
       have h2 := HF2.out
       simp only [Bool.false_eq_true, if_false, Option.some.injEq] at h2
       subst h2
       clear HF2
       have hk3 := blk_cell HT3.out.blk 3
       have hz0 : (0 : Int) < (nx2.length : Int) := by have := HL3.out; omega
       obtain ⟨hcn, hfn⟩ := Kd.R_celln 0 HN3.out 0 (Int.le_refl _) hz0
       replace hcn : w3.cell? ⟨bn, 0, none⟩ = some (.int .i64 (rdOf 0 nx2 0)) := hcn
       replace hfn : w3.frozen? ⟨bn, 0, none⟩ = false := hfn
       obtain ⟨hp1, hp2⟩ := Kd.R_putg HN3.out 0 (-1)
       have hsl2 : (nx2.set 0 (-1)).length = nx2.length := List.length_set
       have hTF : TF (w3.setCell ⟨bn, 0, none⟩ (.int .i64 (-1))) bt bn bo (some ⟨ba, 0, none⟩) Ah co ca ch (nx2.set 0 (-1)).length cn o a hd := by
        have := TF.step HT3.out (KeepBut.set_ (KeepBut.refl w3 bn none) 0 (.int .i64 (-1)))
        rw [hsl2]
        exact this
       have hPR : (Kd.int .i64).R 3 (w3.setCell ⟨bn, 0, none⟩ (.int .i64 (-1))) w.heap.size (fun _ => True) (.slice (some ⟨bn, 0, none⟩) (nx2.set 0 (-1)).length cn) (nx2.set 0 (-1)) := by
        rw [hsl2]
        exact hp1
       have hBN : Below w.heap.size w (w3.setCell ⟨bn, 0, none⟩ (.int .i64 (-1))) := Below.grown HB3.out hp2 HB3.out.size (fun k hk => by injection hk with hk; rw [← hk]; exact Kd.R_base HN3.out bn rfl)
       have he4 := HE.out
       subst he4
       have HBN := Aside0.mk hBN; have HPR := Aside0.mk hPR; have HTF := Aside0.mk hTF
       clear hp1 hp2 hBN hPR hTF hsl2
       go_wp2
       go_ret
       exact ⟨bt, bo, ba, bn, Ah, co, ca, ch, cn, rfl, HTF.out, HPR.out, HBN.out⟩
end Go.Proofs.Ytclhjalgflebfaa.Q

/- 'dom.Nearest', 'dom.Is': by hand. -/

namespace Go.Proofs.Ytclhjalgflebfaa.Q
open Go.RowKit Go.Proofs.YtclhjalgflebfaaW.PrintWords Go.Proofs.YtclhjalgflebfaaW.PrintLast Go.Proofs.YtclhjalgflebfaaW.PrintMore
set_option linter.unusedVariables false
set_option linter.unusedSimpArgs false
set_option maxRecDepth 100000 in
set_option maxHeartbeats 2000000 in
theorem grow_nil (a0_0 : ByteArray) (A0_1 : Option Addr) (c0_1 : Nat) (l0_1 : List ByteArray) (a0_2 : ByteArray) (A0_3 : Option Addr) (c0_3 : Nat) (l0_3 : List ByteArray) (A0_4 : Option Addr) (c0_4 : Nat) (l0_4 : List (S58)) (A0_5 : Option Addr) (c0_5 : Nat) (l0_5 : List (S40)) (w : World) (hz : l0_5.length = 0) :
  Calls Try.prog 67 #[.agg #[.string a0_0, .slice A0_1 l0_1.length c0_1, .string a0_2, .slice A0_3 l0_3.length c0_3, .slice A0_4 l0_4.length c0_4, .slice A0_5 l0_5.length c0_5]] w fun e W' => e = .returned (.pointer none) ∧ Below w.heap.size w W' := by
 have hB := below_alloc (Below.refl w.heap.size w) (.cells #[.string a0_0, .slice A0_1 l0_1.length c0_1, .string a0_2, .slice A0_3 l0_3.length c0_3, .slice A0_4 l0_4.length c0_4, .slice A0_5 l0_5.length c0_5] 26)
 have HB := Aside0.mk hB; clear hB
 have hb : ((l0_5.length : Int) == 0) = true := beq_iff_eq.mpr (by omega)
 clear hz
 go_enter Try.func67, Try.ntmps67
 go_wp2
 go_ret
 exact ⟨rfl, HB.out⟩
def dom_Nearest.f (a0_0 : ByteArray) (l0_1 : List ByteArray) (a0_2 : ByteArray) (l0_3 : List ByteArray) (l0_4 : List (S58)) (l0_5 : List (S40)) : Option (List Int) := if l0_5.length = 0 then some [] else (growO a0_0 l0_1 a0_2 l0_3 l0_4 l0_5).map (·.2.2.2)
set_option maxRecDepth 100000 in
set_option maxHeartbeats 2000000 in
theorem dom_Nearest.calls (a0_0 : ByteArray) (A0_1 : Option Addr) (c0_1 : Nat) (l0_1 : List ByteArray) (a0_2 : ByteArray) (A0_3 : Option Addr) (c0_3 : Nat) (l0_3 : List ByteArray) (A0_4 : Option Addr) (c0_4 : Nat) (l0_4 : List (S58)) (A0_5 : Option Addr) (c0_5 : Nat) (l0_5 : List (S40)) (r : List Int) (w : World) (hr0_1 : Kd.C Kd.string w A0_1 l0_1.length l0_1) (hc0_1 : l0_1.length ≤ c0_1) (hr0_3 : Kd.C Kd.string w A0_3 l0_3.length l0_3) (hc0_3 : l0_3.length ≤ c0_3) (hr0_4 : Kd.C k58 w A0_4 l0_4.length l0_4) (hc0_4 : l0_4.length ≤ c0_4) (hr0_5 : Kd.C k40 w A0_5 l0_5.length l0_5) (hc0_5 : l0_5.length ≤ c0_5) (h : dom_Nearest.f a0_0 l0_1 a0_2 l0_3 l0_4 l0_5 = some r) :
  Calls Try.prog 40 #[.agg #[.string a0_0, .slice A0_1 l0_1.length c0_1, .string a0_2, .slice A0_3 l0_3.length c0_3, .slice A0_4 l0_4.length c0_4, .slice A0_5 l0_5.length c0_5]] w fun e w' => ∃ v0_ : Value, e = .returned (v0_) ∧ Kd.R (Kd.int .i64) 3 w' w.heap.size (fun _ => True) v0_ r ∧ Below w.heap.size w w' := by
 unfold dom_Nearest.f at h
 have hb0 := below_alloc (Below.refl w.heap.size w) (.cells #[.string a0_0, .slice A0_1 l0_1.length c0_1, .string a0_2, .slice A0_3 l0_3.length c0_3, .slice A0_4 l0_4.length c0_4, .slice A0_5 l0_5.length c0_5] 26)
 have HB0 := Aside0.mk hb0; clear hb0
 by_cases hz : l0_5.length = 0
 ·rw [if_pos hz] at h
  obtain rfl := Option.some.inj h
  have HZ := Aside0.mk hz; clear hz h
  go_enter Try.func40, Try.ntmps40
  go_wp2_with fail
  refine (grow_nil a0_0 A0_1 c0_1 l0_1 a0_2 A0_3 c0_3 l0_3 A0_4 c0_4 l0_4 A0_5 c0_5 l0_5 _ HZ.out).mono ?_
  rintro e w1 ⟨rfl, hb1⟩
  have HB1 := Aside0.mk (below_step HB0.out hb1); clear hb1
  go_wp2
  go_ret
  exact ⟨_, rfl, Kd.R_nil _ _ _ _ _, HB1.out⟩
 ·rw [if_neg hz] at h
  obtain ⟨⟨r1, r2, r3, r4⟩, hg, rfl⟩ := Option.map_eq_some_iff.mp h
  clear h hz
  have HG := Aside0.mk hg; clear hg
  go_enter Try.func40, Try.ntmps40
  go_wp2_with fail
  refine (grow_calls a0_0 A0_1 c0_1 l0_1 a0_2 A0_3 c0_3 l0_3 A0_4 c0_4 l0_4 A0_5 c0_5 l0_5 r1 r2 r3 r4 _ (Kd.C_below hr0_1 HB0.out) hc0_1 (Kd.C_below hr0_3 HB0.out) hc0_3 (Kd.C_below hr0_4 HB0.out) hc0_4 (Kd.C_below hr0_5 HB0.out) hc0_5 HG.out).mono ?_
  rintro e w1 ⟨bt, bo, ba, bn, Ah, co, ca, ch, cn, rfl, hT, hR, hb1⟩
  have HT := Aside0.mk hT
  have HR := Aside0.mk hR
  have HB1 := Aside0.mk (below_step HB0.out hb1)
  have hk3 := blk_cell hT.blk 3
  clear hb1 hT hR
  go_wp2
  go_ret
  exact ⟨_, rfl, Kd.R_lower HR.out HB0.out.size, HB1.out⟩
def dom_Is.f (a0_0 : ByteArray) (l0_1 : List ByteArray) (a0_2 : ByteArray) (l0_3 : List ByteArray) (l0_4 : List (S58)) (l0_5 : List (S40)) (a1 : Int) (a2 : Int) : Option Bool := if 0 ≤ a1 ∧ 0 ≤ a2 ∧ a1 < (l0_5.length : Int) ∧ a2 < (l0_5.length : Int) then (growO a0_0 l0_1 a0_2 l0_3 l0_4 l0_5).bind (fun t => isO t.2.1 t.2.2.2 (fuelD l0_5.length) a1 a2) else some false
set_option maxRecDepth 100000 in
set_option maxHeartbeats 2000000 in
theorem dom_Is.calls (a0_0 : ByteArray) (A0_1 : Option Addr) (c0_1 : Nat) (l0_1 : List ByteArray) (a0_2 : ByteArray) (A0_3 : Option Addr) (c0_3 : Nat) (l0_3 : List ByteArray) (A0_4 : Option Addr) (c0_4 : Nat) (l0_4 : List (S58)) (A0_5 : Option Addr) (c0_5 : Nat) (l0_5 : List (S40)) (a1 : Int) (a2 : Int) (r : Bool) (w : World) (hr0_1 : Kd.C Kd.string w A0_1 l0_1.length l0_1) (hc0_1 : l0_1.length ≤ c0_1) (hr0_3 : Kd.C Kd.string w A0_3 l0_3.length l0_3) (hc0_3 : l0_3.length ≤ c0_3) (hr0_4 : Kd.C k58 w A0_4 l0_4.length l0_4) (hc0_4 : l0_4.length ≤ c0_4) (hr0_5 : Kd.C k40 w A0_5 l0_5.length l0_5) (hc0_5 : l0_5.length ≤ c0_5) (h : dom_Is.f a0_0 l0_1 a0_2 l0_3 l0_4 l0_5 a1 a2 = some r) :
  Calls Try.prog 43 #[.agg #[.string a0_0, .slice A0_1 l0_1.length c0_1, .string a0_2, .slice A0_3 l0_3.length c0_3, .slice A0_4 l0_4.length c0_4, .slice A0_5 l0_5.length c0_5], .int .i64 a1, .int .i64 a2] w fun e w' => e = .returned (.bool r) ∧ Below w.heap.size w w' := by
 unfold dom_Is.f at h
 have hb0 := below_alloc (Below.refl w.heap.size w) (.cells #[.string a0_0, .slice A0_1 l0_1.length c0_1, .string a0_2, .slice A0_3 l0_3.length c0_3, .slice A0_4 l0_4.length c0_4, .slice A0_5 l0_5.length c0_5] 26)
 have HB0 := Aside0.mk hb0; clear hb0
 have hblk := blk_new w (.cells #[.string a0_0, .slice A0_1 l0_1.length c0_1, .string a0_2, .slice A0_3 l0_3.length c0_3, .slice A0_4 l0_4.length c0_4, .slice A0_5 l0_5.length c0_5] 26)
 split at h
 ·rename_i hin
  obtain ⟨h1, h2, h3, h4⟩ := hin
  obtain ⟨⟨r1, r2, r3, r4⟩, hg, hi⟩ := Option.bind_eq_some_iff.mp h
  clear h
  have HG := Aside0.mk hg; have HI := Aside0.mk hi; clear hg hi
  have d1 : decide (min a1 a2 < 0) = false := decide_eq_false (by omega)
  have d2 : decide ((l0_5.length : Int) ≤ max a1 a2) = false := decide_eq_false (by omega)
  go_enter Try.func43, Try.ntmps43
  go_wp2_with fail
  refine (grow_calls a0_0 A0_1 c0_1 l0_1 a0_2 A0_3 c0_3 l0_3 A0_4 c0_4 l0_4 A0_5 c0_5 l0_5 r1 r2 r3 r4 _ (Kd.C_below hr0_1 HB0.out) hc0_1 (Kd.C_below hr0_3 HB0.out) hc0_3 (Kd.C_below hr0_4 HB0.out) hc0_4 (Kd.C_below hr0_5 HB0.out) hc0_5 HG.out).mono ?_
  rintro e w1 ⟨bt, bo, ba, bn, Ah, co, ca, ch, cn, rfl, hT, hR, hb1⟩
  have HT := Aside0.mk hT
  have HR := Aside0.mk (Kd.R_reads' hR).2.2
  have HB1 := Aside0.mk (below_step HB0.out hb1)
  clear hb1 hT hR
  go_wp2_with fail
  refine (is_calls (fuelD l0_5.length) a1 a2 r HI.out HT.out.blk (HT.out.atr _ (KeepBut.refl _ _ _)) HR.out).mono ?_
  rintro e w2 ⟨rfl, hd⟩
  have HB2 := Aside0.mk (below_step HB1.out hd.below); clear hd
  go_wp2
  go_ret
  exact ⟨rfl, HB2.out⟩
 ·rename_i hin
  obtain rfl := Option.some.inj h
  by_cases hlo : min a1 a2 < 0
  ·have d1 : decide (min a1 a2 < 0) = true := decide_eq_true hlo
   go_enter Try.func43, Try.ntmps43
   go_wp2
   go_ret
   exact ⟨rfl, HB0.out⟩
  ·have d1 : decide (min a1 a2 < 0) = false := decide_eq_false hlo
   have d2 : decide ((l0_5.length : Int) ≤ max a1 a2) = true := decide_eq_true (by omega)
   go_enter Try.func43, Try.ntmps43
   go_wp2
   go_ret
   exact ⟨rfl, HB0.out⟩
end Go.Proofs.Ytclhjalgflebfaa.Q

namespace Go.Proofs.Ytclhjalgflebfaa.Q
open Go.RowKit Go.Proofs.YtclhjalgflebfaaW.PrintWords Go.Proofs.YtclhjalgflebfaaW.PrintLast Go.Proofs.YtclhjalgflebfaaW.PrintMore
attribute [local go_sem] max2_int min2_int max_two min_two max_three min_three max_four min_four   -- for this text's walks alone
set_option linter.unusedVariables false
set_option linter.unusedSimpArgs false

/-! ### dom_Under: function 42 -/
def dom_Under.l0 : Nat → List (List Int) → List Int → Int → Int → Option ((List (List Int)))
 | 0, _, _, _, _ => none
 | k + 1, x3, x11, x12, x13 => if x13 < x12 then (if 0 ≤ x13 then (if x13 < (x11.length : Int) then (if (rd x11 x13) = (-1) then (dom_Under.l0 k x3 x11 x12 (wrap64 (x13 + 1))) else (if 0 ≤ (rd x11 x13) then (if (rd x11 x13) < (x3.length : Int) then (if (rd_L2 x3 (rd x11 x13)).length < 17592186044416 then (dom_Under.l0 k (x3.set ((rd x11 x13) : Int).toNat ((rd_L2 x3 (rd x11 x13)) ++ [x13])) x11 x12 (wrap64 (x13 + 1))) else (none)) else (none)) else (none))) else (none)) else (none)) else (some x3)
def dom_Under.f (k : Nat) (a0_0 : ByteArray) (l0_1 : List ByteArray) (a0_2 : ByteArray) (l0_3 : List ByteArray) (l0_4 : List (S58)) (l0_5 : List (S40)) : Option ((List (List Int))) := if 0 ≤ (l0_5.length : Int) then (if ((l0_5.length : Int) : Int).toNat ≤ 11728124029610 then ((dom_Nearest.f a0_0 l0_1 a0_2 l0_3 l0_4 l0_5).bind fun t150 => (dom_Under.l0 k (List.replicate ((l0_5.length : Int) : Int).toNat []) t150 (t150.length : Int) 0)) else (none)) else (none)
theorem dom_Under.mono_l : ∀ k, (∀ y0 y1 y2 y3, LeO (dom_Under.l0 k y0 y1 y2 y3) (dom_Under.l0 (k + 1) y0 y1 y2 y3))
 | 0 => fun _ _ _ _ r h => by simp [dom_Under.l0] at h
 | k + 1 => by
  have ih0 := dom_Under.mono_l k
  ·intro y0 y1 y2 y3
   unfold dom_Under.l0
   repeat' first
   | (with_reducible exact ih0 _ _ _ _)
   | (with_reducible exact LeO.refl _)
   | (with_reducible exact LeO.none _)
   | (with_reducible refine LeO.ite ?_ ?_)
   | (with_reducible refine LeO.bind ?_ (fun _ => ?_))
   | exact ih0 _ _ _ _
   | exact LeO.none _
   | refine LeO.ite ?_ ?_
   | refine LeO.bind ?_ (fun _ => ?_)
theorem dom_Under.mono : ∀ a0 a1 a2 a3 a4 a5 k, LeO (dom_Under.f k a0 a1 a2 a3 a4 a5) (dom_Under.f (k + 1) a0 a1 a2 a3 a4 a5) := by
 intro a0 a1 a2 a3 a4 a5 k
 have ih0 := dom_Under.mono_l k
 unfold dom_Under.f
 repeat' first
   | (with_reducible exact ih0 _ _ _ _)
   | (with_reducible exact LeO.refl _)
   | (with_reducible exact LeO.none _)
   | (with_reducible refine LeO.ite ?_ ?_)
   | (with_reducible refine LeO.bind ?_ (fun _ => ?_))
   | exact ih0 _ _ _ _
   | exact LeO.none _
   | refine LeO.ite ?_ ?_
   | refine LeO.bind ?_ (fun _ => ?_)
set_option maxHeartbeats 8000000 in
set_option maxRecDepth 100000 in
theorem dom_Under.calls (k : Nat) (a0_0 : ByteArray) (A0_1 : Option Addr) (c0_1 : Nat) (l0_1 : List ByteArray) (a0_2 : ByteArray) (A0_3 : Option Addr) (c0_3 : Nat) (l0_3 : List ByteArray) (A0_4 : Option Addr) (c0_4 : Nat) (l0_4 : List (S58)) (A0_5 : Option Addr) (c0_5 : Nat) (l0_5 : List (S40)) (r : List (List Int)) (w : World) (hr0_1 : Kd.C Kd.string w A0_1 l0_1.length l0_1) (hc0_1 : l0_1.length ≤ c0_1) (hr0_3 : Kd.C Kd.string w A0_3 l0_3.length l0_3) (hc0_3 : l0_3.length ≤ c0_3) (hr0_4 : Kd.C k58 w A0_4 l0_4.length l0_4) (hc0_4 : l0_4.length ≤ c0_4) (hr0_5 : Kd.C k40 w A0_5 l0_5.length l0_5) (hc0_5 : l0_5.length ≤ c0_5) (h : dom_Under.f k a0_0 l0_1 a0_2 l0_3 l0_4 l0_5 = some r) :
  Calls Try.prog 42 #[.agg #[.string a0_0, .slice A0_1 l0_1.length c0_1, .string a0_2, .slice A0_3 l0_3.length c0_3, .slice A0_4 l0_4.length c0_4, .slice A0_5 l0_5.length c0_5]] w fun e w' => ∃ v0_ : Value, e = .returned (v0_) ∧ Kd.S (Kd.slice 3 (Kd.int .i64)) 34 w' w.heap.size (fun _ => True) v0_ r ∧ Below w.heap.size w w' := by
 have hu26 := Try.underlying26
 have HR0_1 := Aside0.mk hr0_1
 have HC0_1 := Aside0.mk hc0_1
 clear hr0_1 hc0_1
 have HR0_3 := Aside0.mk hr0_3
 have HC0_3 := Aside0.mk hc0_3
 clear hr0_3 hc0_3
 have HR0_4 := Aside0.mk hr0_4
 have HC0_4 := Aside0.mk hc0_4
 clear hr0_4 hc0_4
 have HR0_5 := Aside0.mk hr0_5
 have HC0_5 := Aside0.mk hc0_5
 clear hr0_5 hc0_5
 have HB := Aside0.mk (Below.refl w.heap.size w)
 have H : (if 0 ≤ (l0_5.length : Int) then (if ((l0_5.length : Int) : Int).toNat ≤ 11728124029610 then ((dom_Nearest.f a0_0 l0_1 a0_2 l0_3 l0_4 l0_5).bind fun t150 => (dom_Under.l0 k (List.replicate ((l0_5.length : Int) : Int).toNat []) t150 (t150.length : Int) 0)) else (none)) else (none)) = some r := h
 clear h
 by_cases c2 : 0 ≤ (l0_5.length : Int)
 ·rw [if_pos c2] at H
  have c2b0 := eq_true c2
  have c2b1 : decide (0 ≤ (l0_5.length : Int)) = true := decide_eq_true c2
  clear c2
  by_cases c3 : ((l0_5.length : Int) : Int).toNat ≤ 11728124029610
  ·rw [if_pos c3] at H
   have c3b0 := eq_true c3
   have c3b1 : decide (((l0_5.length : Int) : Int).toNat ≤ 11728124029610) = true := decide_eq_true c3
   clear c3
   obtain ⟨y147, hy147⟩ : ∃ y_ : List (List Int), y_ = (List.replicate ((l0_5.length : Int) : Int).toNat []) := ⟨_, rfl⟩
   replace H : ((dom_Nearest.f a0_0 l0_1 a0_2 l0_3 l0_4 l0_5).bind fun t150 => (dom_Under.l0 k y147 t150 (t150.length : Int) 0)) = some r := by first | (rw [hy147]; with_reducible exact H) | (have H2_ := (Option.bind_some _ _).symm.trans H; rw [hy147]; with_reducible exact H2_) | (have H2_ := (Option.bind_some _ _).symm.trans H; with_reducible exact H2_) | with_reducible exact H | (rw [hy147]; exact H) | exact H
   have Ny147 := Aside0.mk hy147
   clear hy147
   replace H := Option.bind_eq_some_iff.mp H
   obtain ⟨t150, A40, H⟩ := H
   replace H : (dom_Under.l0 k y147 t150 (t150.length : Int) 0) = some r := H
   have A4 := Aside0.mk A40
   clear A40
   have H' := Aside0.mk H
   clear H
   go_enter Try.func42, Try.ntmps42
   go_wp2_with (first | ((with_reducible refine gate_dst (N := 1) rfl ?_); refine box_event ?hg (N := 1) ?hd (cs := #[.string a0_0, .slice A0_1 l0_1.length c0_1, .string a0_2, .slice A0_3 l0_3.length c0_3, .slice A0_4 l0_4.length c0_4, .slice A0_5 l0_5.length c0_5]) (t := 26) ?hr ?_; (case hd => rfl); (case hg => rfl); (case hr => first | (go_simp; done) | (go_simp; rfl)); intro gb146 hg w5 hbox hb; have n0_ := Aside0.mk (below_step (by repeat (first | (with_reducible first | exact HB.out | apply below_alloc | apply pw_below_drewN | apply below_drew1) | exact HB.out)) hb); have n1_ := Aside0.mk (hbox); have n2_ := Aside0.mk ((by rw [hg]; exact (below_size (by repeat (first | (with_reducible first | exact HB.out | apply below_alloc | apply pw_below_drewN | apply below_drew1) | exact HB.out))) : w.heap.size ≤ gb146)); have n3_ := Aside0.mk ((by rw [hg]; exact (below_size (by repeat (first | (with_reducible first | exact HB.out | apply below_alloc | apply pw_below_drewN | apply below_drew1) | exact HB.out))) : w.heap.size ≤ gb146)); clear HB; have HB := n0_; have BK146 := n1_; have GW146 := n2_; have GE146 := n3_; clear n0_ n1_ n2_ n3_; clear hb hbox hg; have hcz6_0 : w5.cell? ⟨gb146, 0, none⟩ = some (.string a0_0) := (blk_cell BK146.out 0).trans rfl; have hcz6_1 : w5.cell? ⟨gb146, 1, none⟩ = some (.slice A0_1 l0_1.length c0_1) := (blk_cell BK146.out 1).trans rfl; have hcz6_2 : w5.cell? ⟨gb146, 2, none⟩ = some (.string a0_2) := (blk_cell BK146.out 2).trans rfl; have hcz6_3 : w5.cell? ⟨gb146, 3, none⟩ = some (.slice A0_3 l0_3.length c0_3) := (blk_cell BK146.out 3).trans rfl; have hcz6_4 : w5.cell? ⟨gb146, 4, none⟩ = some (.slice A0_4 l0_4.length c0_4) := (blk_cell BK146.out 4).trans rfl; have hcz6_5 : w5.cell? ⟨gb146, 5, none⟩ = some (.slice A0_5 l0_5.length c0_5) := (blk_cell BK146.out 5).trans rfl; have hfz6_0 := blk_frozen BK146.out 0; have hfz6_1 := blk_frozen BK146.out 1; have hfz6_2 := blk_frozen BK146.out 2; have hfz6_3 := blk_frozen BK146.out 3; have hfz6_4 := blk_frozen BK146.out 4; have hfz6_5 := blk_frozen BK146.out 5) | ((with_reducible refine gate_dst (N := 9) rfl ?_); refine Kd.S_make (Kd.slice 3 (Kd.int .i64)) _ 34 rfl (N := 9) rfl 29 _ _ rfl (l0_5.length : Int) rfl rfl Try.underlying29 (.slice none 0 0) 24 info34 rfl (by decide) (by omega) [] (ok := fun _ => True) (okp := fun _ => True) ⟨_, rfl, Kd.R_nil _ _ _ _ _⟩ (fun _ hk => hk) trivial (of_decide_eq_true (by first | (with_reducible assumption) | assumption)) (Nat.le_trans (Nat.mul_le_mul_right _ (of_decide_eq_true (by first | (with_reducible assumption) | assumption) : (l0_5.length : Int).toNat ≤ 11728124029610)) (by omega)) (Below.refl _ _) (Nat.le_refl _) ?_; intro v148 w7 ho8 hb hg_ hnew_; clear hg_ hnew_; (first | rw [← Ny147.out] at ho8 | (simp only [Int.reduceToNat] at ho8; rw [← Ny147.out] at ho8)); have n0_ := Aside0.mk (Kd.S_lower ho8 (below_size (by repeat (first | (with_reducible first | exact HB.out | apply below_alloc | apply pw_below_drewN | apply below_drew1 | refine below_set ?_ GE146.out) | exact HB.out)))); have n1_ := Aside0.mk (blk_below (g := gb146) (o := .cells #[.string a0_0, .slice A0_1 l0_1.length c0_1, .string a0_2, .slice A0_3 l0_3.length c0_3, .slice A0_4 l0_4.length c0_4, .slice A0_5 l0_5.length c0_5] 26 (0, 0)) (by (with_reducible repeat (first | refine blk_drewN ?_ _ | refine blk_drew ?_ | refine blk_alloc ?_ _)); exact BK146.out) hb); have n2_ := Aside0.mk (below_step (by repeat (first | (with_reducible first | exact HB.out | apply below_alloc | apply pw_below_drewN | apply below_drew1 | refine below_set ?_ GE146.out) | exact HB.out)) hb); clear BK146; clear HB; have HO149 := n0_; have BK146 := n1_; have HB := n2_; clear n0_ n1_ n2_; clear hb ho8; have hcz9_0 : w7.cell? ⟨gb146, 0, none⟩ = some (.string a0_0) := (blk_cell BK146.out 0).trans rfl; have hcz9_1 : w7.cell? ⟨gb146, 1, none⟩ = some (.slice A0_1 l0_1.length c0_1) := (blk_cell BK146.out 1).trans rfl; have hcz9_2 : w7.cell? ⟨gb146, 2, none⟩ = some (.string a0_2) := (blk_cell BK146.out 2).trans rfl; have hcz9_3 : w7.cell? ⟨gb146, 3, none⟩ = some (.slice A0_3 l0_3.length c0_3) := (blk_cell BK146.out 3).trans rfl; have hcz9_4 : w7.cell? ⟨gb146, 4, none⟩ = some (.slice A0_4 l0_4.length c0_4) := (blk_cell BK146.out 4).trans rfl; have hcz9_5 : w7.cell? ⟨gb146, 5, none⟩ = some (.slice A0_5 l0_5.length c0_5) := (blk_cell BK146.out 5).trans rfl; have hfz9_0 := blk_frozen BK146.out 0; have hfz9_1 := blk_frozen BK146.out 1; have hfz9_2 := blk_frozen BK146.out 2; have hfz9_3 := blk_frozen BK146.out 3; have hfz9_4 := blk_frozen BK146.out 4; have hfz9_5 := blk_frozen BK146.out 5) | ((with_reducible refine gate_callee (f := 40) rfl ?_); refine goesL_ (some 11) rfl rfl Try.func40 (by kernel_rfl) rfl #[.agg #[.string a0_0, .slice A0_1 l0_1.length c0_1, .string a0_2, .slice A0_3 l0_3.length c0_3, .slice A0_4 l0_4.length c0_4, .slice A0_5 l0_5.length c0_5]] rfl (by (try simp only [List.map_toArray, List.map_cons, List.map_nil]); first | done | rfl | (simp only [List.length_drop, List.length_take]; rfl)) ?_; (with_reducible refine (dom_Nearest.calls a0_0 _ _ l0_1 a0_2 _ _ l0_3 _ _ l0_4 _ _ l0_5 t150 _ ?side1 ?side2 ?side3 ?side4 ?side5 ?side6 ?side7 ?side8 A4.out).mono ?_); (case side1 => repeat (first | exact (Kd.C_below HR0_1.out HB.out) | (with_reducible refine Kd.C_alloc ?_ _) | (with_reducible refine Kd.C_drewN ?_ _) | (with_reducible refine Kd.C_drew ?_))); (case side2 => exact HC0_1.out); (case side3 => repeat (first | exact (Kd.C_below HR0_3.out HB.out) | (with_reducible refine Kd.C_alloc ?_ _) | (with_reducible refine Kd.C_drewN ?_ _) | (with_reducible refine Kd.C_drew ?_))); (case side4 => exact HC0_3.out); (case side5 => repeat (first | exact (Kd.C_below HR0_4.out HB.out) | (with_reducible refine Kd.C_alloc ?_ _) | (with_reducible refine Kd.C_drewN ?_ _) | (with_reducible refine Kd.C_drew ?_))); (case side6 => exact HC0_4.out); (case side7 => repeat (first | exact (Kd.C_below HR0_5.out HB.out) | (with_reducible refine Kd.C_alloc ?_ _) | (with_reducible refine Kd.C_drewN ?_ _) | (with_reducible refine Kd.C_drew ?_))); (case side8 => exact HC0_5.out); rintro e w10 ⟨v151, rfl, ho0, hb⟩; refine ⟨_, rfl, ?_⟩; have n0_ := Aside0.mk (Kd.S_elder' (by (with_reducible repeat (first | apply Kd.S_alloc | apply Kd.S_drewN | apply Kd.S_drew)); exact HO149.out) (Kd.R_base ho0) hb); have n1_ := Aside0.mk (Kd.R_lower ho0 (below_size (by repeat (first | (with_reducible first | exact HB.out | apply below_alloc | apply pw_below_drewN | apply below_drew1 | refine below_set ?_ GE146.out) | exact HB.out)))); have n2_ := Aside0.mk (blk_below (g := gb146) (o := .cells #[.string a0_0, .slice A0_1 l0_1.length c0_1, .string a0_2, .slice A0_3 l0_3.length c0_3, .slice A0_4 l0_4.length c0_4, .slice A0_5 l0_5.length c0_5] 26 (0, 0)) (by (with_reducible repeat (first | refine blk_drewN ?_ _ | refine blk_drew ?_ | refine blk_alloc ?_ _)); exact BK146.out) hb); have n3_ := Aside0.mk (below_step (by repeat (first | (with_reducible first | exact HB.out | apply below_alloc | apply pw_below_drewN | apply below_drew1 | refine below_set ?_ GE146.out) | exact HB.out)) hb); clear HO149; clear BK146; clear HB; have HO149 := n0_; have HO152 := n1_; have BK146 := n2_; have HB := n3_; clear n0_ n1_ n2_ n3_; (try clear hb); (try clear hb2); (try clear hk); (try clear hi); (try clear ho0); obtain ⟨Ao11, co11, eo11⟩ := Kd.R_slice HO152.out; subst eo11))
   go_loopg [13] k (fun kq v13 w' => ∃ (x3_1 : List (List Int)) (x13_1 : Int), v13 = .int .i64 x13_1 ∧ Aside0 (dom_Under.l0 kq x3_1 t150 (t150.length : Int) x13_1 = some r) ∧ Aside0 (kq ≤ k) ∧ Aside0 (Kd.S (Kd.slice 3 (Kd.int .i64)) 34 w' w.heap.size (fun k_ => some k_ ≠ ((.slice Ao11 t150.length co11) : Value).ownBlock) v148 x3_1) ∧ Aside0 (Kd.R (Kd.int .i64) 3 w' w.heap.size (fun _ => True) (.slice Ao11 t150.length co11) t150) ∧ Aside0 (w'.heap[gb146]? = some (.cells #[.string a0_0, (.slice A0_1 l0_1.length c0_1), .string a0_2, (.slice A0_3 l0_3.length c0_3), (.slice A0_4 l0_4.length c0_4), (.slice A0_5 l0_5.length c0_5)] 26 (0, 0))) ∧ Aside0 (Below w.heap.size w w'))
   case atStart => exact ⟨(y147), (0), (by first | rfl | (simp; done) | (simp [*]; done)), H', ⟨Nat.le_refl _⟩, ⟨by (with_reducible repeat (first | apply Kd.S_alloc | apply Kd.S_drewN | apply Kd.S_drew)); exact Kd.S_mono HO149.out (fun _ hk => hk.2)⟩, ⟨by (with_reducible repeat (first | apply Kd.R_alloc | apply Kd.R_drewN | apply Kd.R_drew)); exact HO152.out⟩, ⟨by (with_reducible repeat (first | refine blk_drewN ?_ _ | refine blk_drew ?_ | refine blk_alloc ?_ _)); exact BK146.out⟩, ⟨by repeat (first | (with_reducible first | exact HB.out | apply below_alloc | apply pw_below_drewN | apply below_drew1 | refine below_set ?_ GE146.out) | exact HB.out)⟩⟩
   case round =>
    clear H'
    try clear c2
    try clear c2b0
    try clear c2b1
    try clear p2
    try clear c3
    try clear c3b0
    try clear c3b1
    try clear c4
    try clear hcz6_0
    try clear hcz6_1
    try clear hcz6_2
    try clear hcz6_3
    try clear hcz6_4
    try clear hcz6_5
    try clear hcz9_0
    try clear hcz9_1
    try clear hcz9_2
    try clear hcz9_3
    try clear hcz9_4
    try clear hcz9_5
    try clear hfz6_0
    try clear hfz6_1
    try clear hfz6_2
    try clear hfz6_3
    try clear hfz6_4
    try clear hfz6_5
    try clear hfz9_0
    try clear hfz9_1
    try clear hfz9_2
    try clear hfz9_3
    try clear hfz9_4
    try clear hfz9_5
    obtain ⟨x3_1, x13_1, rfl, HA, HK1, HO_3, HO_11, BK146, HB⟩ := hrel
    cases gk with
    | zero => exact absurd HA.out (by simp [dom_Under.l0])
    | succ k1 =>
     have H := HA.out
     clear HA
     simp only [dom_Under.l0] at H
     by_cases c12 : x13_1 < (t150.length : Int)
     ·rw [if_pos c12] at H
      have c12b0 : decide (x13_1 < (t150.length : Int)) = true := decide_eq_true c12
      clear c12
      by_cases c13 : 0 ≤ x13_1
      ·rw [if_pos c13] at H
       have c13b0 : decide (0 ≤ x13_1) = true := decide_eq_true c13
       clear c13
       by_cases c14 : x13_1 < (t150.length : Int)
       ·rw [if_pos c14] at H
        have c14b0 : decide (x13_1 < (t150.length : Int)) = true := decide_eq_true c14
        clear c14
        by_cases c15 : (rd t150 x13_1) = (-1)
        ·rw [if_pos c15] at H
         have c15b0 : ((rd t150 x13_1) == (-1)) = true := beq_iff_eq.mpr c15
         have c15b1 : ((rd t150 x13_1) != (-1)) = false := bne_eq_false_iff_eq.mpr c15
         clear c15
         have H' := Aside0.mk H
         clear H
         have p153 : 0 ≤ (x13_1 : Int) := of_decide_eq_true (by first | (with_reducible assumption) | assumption)
         have q153 : x13_1 < (t150.length : Int) := of_decide_eq_true (by first | (with_reducible assumption) | assumption)
         obtain ⟨ad153, e153, hx153_0⟩ := Kd.at_int (Kd.R_reads' HO_11.out).2.2 x13_1 p153 q153
         cases e153
         replace p153 := eq_true p153
         replace q153 := eq_true q153
         go_wp2
         go_roundg k1
         case measure => have := HK1.out; omega
         case rel => exact ⟨(x3_1), (wrap64 (x13_1 + 1)), (by first | rfl | (simp; done) | (simp [*]; done)), H', ⟨by have := HK1.out; omega⟩, ⟨by (with_reducible repeat (first | apply Kd.S_alloc | apply Kd.S_drewN | apply Kd.S_drew)); exact HO_3.out⟩, ⟨by (with_reducible repeat (first | apply Kd.R_alloc | apply Kd.R_drewN | apply Kd.R_drew)); exact HO_11.out⟩, ⟨by (with_reducible repeat (first | refine blk_drewN ?_ _ | refine blk_drew ?_ | refine blk_alloc ?_ _)); exact BK146.out⟩, ⟨by repeat (first | (with_reducible first | exact HB.out | apply below_alloc | apply pw_below_drewN | apply below_drew1 | refine below_set ?_ GE146.out) | exact HB.out)⟩⟩
        ·rw [if_neg c15] at H
         have c15b0 : ((rd t150 x13_1) == (-1)) = false := beq_eq_false_iff_ne.mpr c15
         have c15b1 : ((rd t150 x13_1) != (-1)) = true := bne_iff_ne.mpr c15
         by_cases c16 : 0 ≤ (rd t150 x13_1)
         ·rw [if_pos c16] at H
          have c16b0 : decide (0 ≤ (rd t150 x13_1)) = true := decide_eq_true c16
          clear c16
          by_cases c17 : (rd t150 x13_1) < (x3_1.length : Int)
          ·rw [if_pos c17] at H
           have c17b0 : decide ((rd t150 x13_1) < (x3_1.length : Int)) = true := decide_eq_true c17
           clear c17
           by_cases c18 : (rd_L2 x3_1 (rd t150 x13_1)).length < 17592186044416
           ·rw [if_pos c18] at H
            have LMc18 := Aside0.mk c18
            clear c18
            obtain ⟨y155, hy155⟩ : ∃ y_ : List Int, y_ = ((rd_L2 x3_1 (rd t150 x13_1)) ++ [x13_1]) := ⟨_, rfl⟩
            replace H : (dom_Under.l0 k1 (x3_1.set ((rd t150 x13_1) : Int).toNat y155) t150 (t150.length : Int) (wrap64 (x13_1 + 1))) = some r := by first | (rw [hy155]; with_reducible exact H) | (have H2_ := (Option.bind_some _ _).symm.trans H; rw [hy155]; with_reducible exact H2_) | (have H2_ := (Option.bind_some _ _).symm.trans H; with_reducible exact H2_) | with_reducible exact H | (rw [hy155]; exact H) | exact H
            have Ny155 := Aside0.mk hy155
            clear hy155
            obtain ⟨y158, hy158⟩ : ∃ y_ : List (List Int), y_ = (x3_1.set ((rd t150 x13_1) : Int).toNat y155) := ⟨_, rfl⟩
            replace H : (dom_Under.l0 k1 y158 t150 (t150.length : Int) (wrap64 (x13_1 + 1))) = some r := by first | (rw [hy158]; with_reducible exact H) | (have H2_ := (Option.bind_some _ _).symm.trans H; rw [hy158]; with_reducible exact H2_) | (have H2_ := (Option.bind_some _ _).symm.trans H; with_reducible exact H2_) | with_reducible exact H | (rw [hy158]; exact H) | exact H
            have Ny158 := Aside0.mk hy158
            clear hy158
            have H' := Aside0.mk H
            clear H
            have p153 : 0 ≤ (x13_1 : Int) := of_decide_eq_true (by first | (with_reducible assumption) | assumption)
            have q153 : x13_1 < (t150.length : Int) := of_decide_eq_true (by first | (with_reducible assumption) | assumption)
            obtain ⟨ad153, e153, hx153_0⟩ := Kd.at_int (Kd.R_reads' HO_11.out).2.2 x13_1 p153 q153
            cases e153
            replace p153 := eq_true p153
            replace q153 := eq_true q153
            obtain ⟨Ao20, co20, eo20⟩ := Kd.S_slice HO_3.out
            subst eo20
            have p154 : 0 ≤ ((rd t150 x13_1) : Int) := of_decide_eq_true (by first | (with_reducible assumption) | assumption)
            have q154 : (rd t150 x13_1) < (x3_1.length : Int) := of_decide_eq_true (by first | (with_reducible assumption) | assumption)
            obtain ⟨ad154, A154_0, c154_0, e154, hx154_0, hl154_0, hi154_0⟩ := at_L2 (Kd.S_reads' HO_3.out).2.2 (rd t150 x13_1) p154 q154
            cases e154
            obtain ⟨ce154, hce154, hMe154, hcc154⟩ := Kd.S_get HO_3.out [] (rd t150 x13_1) p154 (by first | exact q154 | exact of_decide_eq_true (by first | (with_reducible assumption) | assumption) | (have e_ := (Kd.S_reads' HO_3.out).1; omega))
            obtain ⟨ve154_0, rfl, ge154_0⟩ := hMe154
            have hv154_0 := hcc154 0 _ rfl
            rw [Nat.add_zero, show ((Kd.slice 3 (Kd.int .i64))).sz = 1 from rfl, Nat.mul_one] at hv154_0
            replace hv154_0 := Option.some.inj (hv154_0.symm.trans hx154_0)
            rw [hv154_0] at ge154_0
            have HL154_0 := Aside0.mk (show Kd.R (Kd.int .i64) 3 _ _ _ _ (rd_L2 x3_1 (rd t150 x13_1)) from ge154_0)
            clear hv154_0 ge154_0
            have HX154_0 := Aside0.mk hx154_0
            clear hcc154 hce154
            have HR154_0 := Aside0.mk hi154_0
            have HC154_0 := Aside0.mk hl154_0
            clear hi154_0 hl154_0
            replace p154 := eq_true p154
            replace q154 := eq_true q154
            obtain ⟨go21, co21, eo21, gb21, gl21, cl21, HG21⟩ := Kd.S_form HO_3.out (by have h_ : ((rd t150 x13_1) : Int) < ((x3_1.length : Int) : Int) := of_decide_eq_true (by first | (with_reducible assumption) | assumption); have h2_ : 0 ≤ ((rd t150 x13_1) : Int) := (of_decide_eq_true (by first | (with_reducible assumption) | assumption)); omega)
            (first | cases eo21 | (injection eo21 with ea_ en_ ec_; (first | subst ea_ | (injection ea_ with ea_; subst ea_)); subst ec_; clear en_))
            have GB21 := Aside0.mk gb21
            have GG21 := Aside0.mk HG21
            clear gb21 gl21 HG21
            (first | simp only [add_plain] at hx154_0 | skip)
            obtain ⟨oki21, ce21, hcl21, hM21, hcc21, _, _, hH21⟩ := Kd.S_elem HO_3.out [] ((rd t150 x13_1) : Int) (of_decide_eq_true (by first | (with_reducible assumption) | assumption)) (by have h_ : ((rd t150 x13_1) : Int) < ((x3_1.length : Int) : Int) := of_decide_eq_true (by first | (with_reducible assumption) | assumption); first | exact h_ | (have e_ := (Kd.S_reads' HO_3.out).1; omega) | simpa using h_)
            obtain ⟨ve21_0, rfl, ge21_0⟩ := hM21
            have hv21 := hcc21 0 _ rfl
            have hX21 := HX154_0.out
            (try simp only [add_plain] at hX21)
            (try simp only [Nat.add_zero] at hv21)
            (try rw [show ((Kd.slice 3 (Kd.int .i64))).sz = 1 from rfl, Nat.mul_one] at hv21)
            replace hv21 := Option.some.inj (hv21.symm.trans hX21)
            subst hv21
            clear hX21 hcc21 hcl21
            have UU21 := Aside0.mk (show Kd.R (Kd.int .i64) 3 _ w.heap.size oki21 (.slice A154_0 (rd_L2 x3_1 (rd t150 x13_1)).length c154_0) (rd_L2 x3_1 (rd t150 x13_1)) from ge21_0)
            have HH21 := Aside0.mk hH21
            have HN21 := Aside0.mk (Kd.S_reads' HO_3.out).1
            clear hH21 ge21_0
            go_wp2_with (first | ((with_reducible refine gate_builtin (b := .append) (xs := #[.tmp 25, .tmp 27]) rfl ?_); at_builtin; refine Kd.R_append (Kd.int .i64) (w0 := w) w.heap.size rfl (.tmp 25) (.tmp 27) 34 3 (.int .i64 0) 8 rfl Try.underlying34 info3 rfl (by decide) (by omega) (.slice A154_0 (rd_L2 x3_1 (rd t150 x13_1)).length c154_0) (rd_L2 x3_1 (rd t150 x13_1)) x13_1 [.int .i64 x13_1] (fun k_ => oki21 k_ ∨ ((fun k_ => some k_ ≠ (.slice (some ad153) t150.length co11 : Value).ownBlock)) k_ ∧ wr.heap.size ≤ k_) (fun _ => False) rfl rfl ?aP (fun _ hk => hk.elim) ?aF ?aO ?aB ?aS ?aL ?_; (case aP => exact rfl); (case aB => exact (by repeat (first | (with_reducible first | exact HB.out | apply below_alloc | apply pw_below_drewN | apply below_drew1 | refine below_set ?_ GE146.out) | exact HB.out))); (case aF => exact (fun k_ hk => .inr ⟨Kd.fresh' (Kd.R_lt (by (with_reducible repeat (first | apply Kd.R_alloc | apply Kd.R_drewN | apply Kd.R_drew)); exact HO_11.out)) k_ hk, hk⟩)); (case aO => exact (by (with_reducible repeat (first | apply Kd.R_alloc | apply Kd.R_drewN | apply Kd.R_drew)); exact Kd.R_mono UU21.out (fun _ hk => .inl hk))); (case aS => exact (below_size (by repeat (first | (with_reducible first | exact HB.out | apply below_alloc | apply pw_below_drewN | apply below_drew1 | refine below_set ?_ GE146.out) | exact HB.out)))); (case aL => have := LMc18.out; omega); intro v156 w22 ho hb hg hat; rw [← Ny155.out] at ho; have n0_ := Aside0.mk (Kd.R_grown2 (by (with_reducible repeat (first | apply Kd.R_alloc | apply Kd.R_drewN | apply Kd.R_drew)); exact HO_11.out) rfl hg (fun k_ e_ => (HL154_0.out.1 k_ e_).1)); have n1_ := Aside0.mk (blk_grown (g := gb146) (o := .cells #[.string a0_0, .slice A0_1 l0_1.length c0_1, .string a0_2, .slice A0_3 l0_3.length c0_3, .slice A0_4 l0_4.length c0_4, .slice A0_5 l0_5.length c0_5] 26 (0, 0)) (by (with_reducible repeat (first | refine blk_drewN ?_ _ | refine blk_drew ?_ | refine blk_alloc ?_ _)); exact BK146.out) hg (Kd.R_ne HL154_0.out BK146.out (by decide))); have n2_ := Aside0.mk (hb); have n3_ := Aside0.mk (Kd.H_grown (Kd.H_widen (by repeat (first | exact HH21.out | refine Kd.H_alloc ?_ _ | refine Kd.H_drewN ?_ _ | refine Kd.H_drew ?_))) hg (fun k_ e_ => .inl (UU21.out.1 k_ e_))); have n4_ := Aside0.mk (ho); clear HO_11; clear BK146; clear HB; clear HH21; clear HO_3; clear UU21; clear HL154_0; have HO_11 := n0_; have BK146 := n1_; have HB := n2_; have HH21 := n3_; have HO157 := n4_; clear n0_ n1_ n2_ n3_ n4_; clear ho hb hg hat; have p19 : 0 ≤ ((rd t150 x13_1) : Int) := of_decide_eq_true (by first | (with_reducible assumption) | assumption); have q19 : ((rd t150 x13_1) : Int) < ((x3_1.length : Int) : Int) := of_decide_eq_true (by first | (with_reducible assumption) | assumption); replace p19 := eq_true p19; replace q19 := eq_true q19; obtain ⟨Ao25, co25, eo25⟩ := Kd.R_slice HO157.out; subst eo25; obtain ⟨_, _, hraw23, _, _, hcc23, _⟩ := Kd.H_raw HH21.out (of_decide_eq_true (by first | (with_reducible assumption) | assumption)) (by have h_ : ((rd t150 x13_1) : Int) < ((x3_1.length : Int) : Int) := of_decide_eq_true (by first | (with_reducible assumption) | assumption); first | exact h_ | (have e_ := (HN21.out); omega) | simpa using h_); obtain ⟨_, hfr23⟩ := Kd.H_at HH21.out (of_decide_eq_true (by first | (with_reducible assumption) | assumption)) (by have h_ : ((rd t150 x13_1) : Int) < ((x3_1.length : Int) : Int) := of_decide_eq_true (by first | (with_reducible assumption) | assumption); first | exact h_ | (have e_ := (HN21.out); omega) | simpa using h_); have hx23_0 := hcc23 0 _ rfl; have hf23_0 := hfr23 0; (try simp only [Nat.add_zero] at hx23_0 hf23_0); (try rw [show ((Kd.slice 3 (Kd.int .i64))).sz = 1 from rfl, Nat.mul_one] at hx23_0); (try rw [show ((Kd.slice 3 (Kd.int .i64))).sz = 1 from rfl, Nat.mul_one] at hf23_0); have HP23 := Kd.S_seg0 HH21.out (of_decide_eq_true (by first | (with_reducible assumption) | assumption)) (by have h_ : ((rd t150 x13_1) : Int) < ((x3_1.length : Int) : Int) := of_decide_eq_true (by first | (with_reducible assumption) | assumption); first | exact h_ | (have e_ := (HN21.out); omega) | simpa using h_) (seg := [.slice Ao25 y155.length co25]) (j := 0) (show 1 ≤ 1 from by decide) (x' := y155) (Kd.M_row HO157.out) (fun _ hk => hk); (try simp only [show ((Kd.slice 3 (Kd.int .i64))).sz = 1 from rfl, Nat.mul_one, Nat.add_zero] at HP23); clear hcc23 hfr23) | ((with_reducible refine gate_store (t := 34) (p := 29) rfl ?_); refine store_event (t := 34) (p := 29) (v := ?vo_w24) (w1 := (w22.setCell ⟨go21, ((rd t150 x13_1) : Int).toNat, none⟩ (.slice Ao25 y155.length co25))) ?hg ?ho ?hn ?hr ?_; (case ho => rfl); (case hg => rfl); (case hn => rfl); (case hr => first | (go_simp; done) | (go_simp; rfl)); intro w24 hw; have hg : w22.grownBy w24 (some go21) := (by rw [hw]; exact HP23.2); have hp_ : Kd.S (Kd.slice 3 (Kd.int .i64)) 34 w24 w.heap.size (fun k_ => some k_ ≠ (.slice (some ad153) t150.length co11 : Value).ownBlock) (.slice (some ⟨go21, 0, none⟩) x3_1.length co20) y158 := (by rw [hw, Ny158.out]; exact HP23.1); clear HP23; have n0_ := Aside0.mk (Kd.R_over' (v := (.slice (some ⟨go21, 0, none⟩) x3_1.length co20)) (by (with_reducible repeat (first | apply Kd.R_alloc | apply Kd.R_drewN | apply Kd.R_drew)); exact HO_11.out) (Kd.R_typed hraw23) (by decide) hg); have n1_ := Aside0.mk (blk_grown (g := gb146) (o := .cells #[.string a0_0, .slice A0_1 l0_1.length c0_1, .string a0_2, .slice A0_3 l0_3.length c0_3, .slice A0_4 l0_4.length c0_4, .slice A0_5 l0_5.length c0_5] 26 (0, 0)) (by (with_reducible repeat (first | refine blk_drewN ?_ _ | refine blk_drew ?_ | refine blk_alloc ?_ _)); exact BK146.out) hg (Kd.R_ne hraw23 BK146.out (by decide))); have n2_ := Aside0.mk ((by rw [hw]; exact below_set HB.out GB21.out : Below w.heap.size w w24)); have n3_ := Aside0.mk (hp_); clear HO_11; clear BK146; clear HB; clear HO157; clear HH21; have HO_11 := n0_; have BK146 := n1_; have HB := n2_; have HO_3 := n3_; clear n0_ n1_ n2_ n3_; clear hg hw hp_ hraw23))
            go_roundg k1
            case measure => have := HK1.out; omega
            case rel => exact ⟨(y158), (wrap64 (x13_1 + 1)), (by first | rfl | (simp; done) | (simp [*]; done)), H', ⟨by have := HK1.out; omega⟩, ⟨by (with_reducible repeat (first | apply Kd.S_alloc | apply Kd.S_drewN | apply Kd.S_drew)); exact HO_3.out⟩, ⟨by (with_reducible repeat (first | apply Kd.R_alloc | apply Kd.R_drewN | apply Kd.R_drew)); exact HO_11.out⟩, ⟨by (with_reducible repeat (first | refine blk_drewN ?_ _ | refine blk_drew ?_ | refine blk_alloc ?_ _)); exact BK146.out⟩, ⟨by repeat (first | (with_reducible first | exact HB.out | apply below_alloc | apply pw_below_drewN | apply below_drew1 | refine below_set ?_ GE146.out) | exact HB.out)⟩⟩
           ·rw [if_neg c18] at H
            exact absurd H (by simp)
          ·rw [if_neg c17] at H
           exact absurd H (by simp)
         ·rw [if_neg c16] at H
          exact absurd H (by simp)
       ·rw [if_neg c14] at H
        exact absurd H (by simp)
      ·rw [if_neg c13] at H
       exact absurd H (by simp)
     ·rw [if_neg c12] at H
      have c12b0 : decide (x13_1 < (t150.length : Int)) = false := decide_eq_false c12
      clear c12
      obtain rfl := Option.some.inj H
      go_wp2
      go_ret
      exact ⟨_, by first | rfl | (simp [errW_none, errW_some] <;> rfl) | (simp [*, errW_none, errW_some] <;> rfl), by (with_reducible repeat (first | apply Kd.S_alloc | apply Kd.S_drewN | apply Kd.S_drew)); exact Kd.S_mono HO_3.out (fun _ hk => trivial), by repeat (first | (with_reducible first | exact HB.out | apply below_alloc | apply pw_below_drewN | apply below_drew1 | refine below_set ?_ GE146.out) | exact HB.out)⟩
  ·rw [if_neg c3] at H
   exact absurd H (by simp)
 ·rw [if_neg c2] at H
  exact absurd H (by simp)

end Go.Proofs.Ytclhjalgflebfaa.Q

namespace Go.Proofs.Ytclhjalgflebfaa.Q
open Go.RowKit Go.Proofs.YtclhjalgflebfaaW.PrintWords Go.Proofs.YtclhjalgflebfaaW.PrintLast Go.Proofs.YtclhjalgflebfaaW.PrintMore
attribute [local go_sem] max2_int min2_int max_two min_two max_three min_three max_four min_four   -- for this text's walks alone
set_option linter.unusedVariables false
set_option linter.unusedSimpArgs false

/-! ### truantlaw10_four: function 66 -/
def truantlaw10_four.f  : Option (ByteArray × List ByteArray × ByteArray × List ByteArray × (List (S58)) × (List (S40))) := some ((⟨#[]⟩ : ByteArray), ([] : List ByteArray), (⟨#[]⟩ : ByteArray), ([] : List ByteArray), ([] : List (S58)), (([(⟨([] : List Int), 2, 0, (⟨1, 2⟩ : S38)⟩ : S40), (⟨([] : List Int), 1, 0, (⟨3, 0⟩ : S38)⟩ : S40), (⟨([] : List Int), 1, 0, (⟨3, 0⟩ : S38)⟩ : S40), (⟨([] : List Int), 3, 0, (⟨0, 0⟩ : S38)⟩ : S40)] : List (S40))))
set_option maxHeartbeats 8000000 in
set_option maxRecDepth 100000 in
theorem truantlaw10_four.calls  (r1 : ByteArray) (r2 : List ByteArray) (r3 : ByteArray) (r4 : List ByteArray) (r5 : List (S58)) (r6 : List (S40)) (w : World) (h : truantlaw10_four.f  = some (r1, r2, r3, r4, r5, r6)) :
  Calls Try.prog 66 #[] w fun e w' => ∃ v1_ v3_ v4_ v5_ : Value, e = .returned (.agg #[.string r1, v1_, .string r3, v3_, v4_, v5_]) ∧ Kd.R Kd.string 9 w' w.heap.size (fun k_ => some k_ ≠ (v3_ : Value).ownBlock) v1_ r2 ∧ Kd.R Kd.string 9 w' w.heap.size (fun k_ => some k_ ≠ (v1_ : Value).ownBlock) v3_ r4 ∧ Kd.S k58 58 w' w.heap.size (fun _ => True) v4_ r5 ∧ Kd.S k40 40 w' w.heap.size (fun _ => True) v5_ r6 ∧ Below w.heap.size w w' := by
 have hu26 := Try.underlying26
 have hu38 := Try.underlying38
 have hu40 := Try.underlying40
 have HB := Aside0.mk (Below.refl w.heap.size w)
 have H : (some ((⟨#[]⟩ : ByteArray), ([] : List ByteArray), (⟨#[]⟩ : ByteArray), ([] : List ByteArray), ([] : List (S58)), (([(⟨([] : List Int), 2, 0, (⟨1, 2⟩ : S38)⟩ : S40), (⟨([] : List Int), 1, 0, (⟨3, 0⟩ : S38)⟩ : S40), (⟨([] : List Int), 1, 0, (⟨3, 0⟩ : S38)⟩ : S40), (⟨([] : List Int), 3, 0, (⟨0, 0⟩ : S38)⟩ : S40)] : List (S40))))) = some (r1, r2, r3, r4, r5, r6) := h
 clear h
 obtain ⟨y283, hy283⟩ : ∃ y_ : List (S40), y_ = (([(⟨([] : List Int), 2, 0, (⟨1, 2⟩ : S38)⟩ : S40), (⟨([] : List Int), 1, 0, (⟨3, 0⟩ : S38)⟩ : S40), (⟨([] : List Int), 1, 0, (⟨3, 0⟩ : S38)⟩ : S40), (⟨([] : List Int), 3, 0, (⟨0, 0⟩ : S38)⟩ : S40)] : List (S40))) := ⟨_, rfl⟩
 replace H : (some ((⟨#[]⟩ : ByteArray), ([] : List ByteArray), (⟨#[]⟩ : ByteArray), ([] : List ByteArray), ([] : List (S58)), y283)) = some (r1, r2, r3, r4, r5, r6) := by first | (rw [hy283]; with_reducible exact H) | (have H2_ := (Option.bind_some _ _).symm.trans H; rw [hy283]; with_reducible exact H2_) | (have H2_ := (Option.bind_some _ _).symm.trans H; with_reducible exact H2_) | with_reducible exact H | (rw [hy283]; exact H) | exact H
 have Ny283 := Aside0.mk hy283
 clear hy283
 simp only [Option.some.injEq, Prod.mk.injEq] at H
 obtain ⟨rfl, rfl, rfl, rfl, rfl, rfl⟩ := H
 go_enter Try.func66, Try.ntmps66
 go_wp2_with (first | ((with_reducible refine gate_dst (N := 0) rfl ?_); refine box_event ?hg (N := 0) ?hd (cs := #[.string (⟨#[]⟩ : ByteArray), .slice none 0 0, .string (⟨#[]⟩ : ByteArray), .slice none 0 0, .slice none 0 0, .slice none 0 0]) (t := 26) ?hr ?_; (case hd => rfl); (case hg => rfl); (case hr => first | (go_simp; done) | (go_simp; rfl)); intro gb282 hg w1 hbox hb; have n0_ := Aside0.mk (below_step (by repeat (first | (with_reducible first | exact HB.out | apply below_alloc | apply pw_below_drewN | apply below_drew1) | exact HB.out)) hb); have n1_ := Aside0.mk (hbox); have n2_ := Aside0.mk ((by rw [hg]; exact (below_size (by repeat (first | (with_reducible first | exact HB.out | apply below_alloc | apply pw_below_drewN | apply below_drew1) | exact HB.out))) : w.heap.size ≤ gb282)); have n3_ := Aside0.mk ((by rw [hg]; exact (below_size (by repeat (first | (with_reducible first | exact HB.out | apply below_alloc | apply pw_below_drewN | apply below_drew1) | exact HB.out))) : w.heap.size ≤ gb282)); clear HB; have HB := n0_; have BK282 := n1_; have GW282 := n2_; have GE282 := n3_; clear n0_ n1_ n2_ n3_; clear hb hbox hg) | ((with_reducible refine gate_dst (N := 8) rfl ?_); refine Kd.S_lit k40 _ 40 ?hg (N := 8) ?hd (xs := ([(⟨([] : List Int), 2, 0, (⟨1, 2⟩ : S38)⟩ : S40), (⟨([] : List Int), 1, 0, (⟨3, 0⟩ : S38)⟩ : S40), (⟨([] : List Int), 1, 0, (⟨3, 0⟩ : S38)⟩ : S40), (⟨([] : List Int), 3, 0, (⟨0, 0⟩ : S38)⟩ : S40)] : List (S40))) (inner := [.slice none 0 0, .int .i64 2, .int .i64 0, .int .i64 1, .int .i64 2, .slice none 0 0, .int .i64 1, .int .i64 0, .int .i64 3, .int .i64 0, .slice none 0 0, .int .i64 1, .int .i64 0, .int .i64 3, .int .i64 0, .slice none 0 0, .int .i64 3, .int .i64 0, .int .i64 0, .int .i64 0]) (ok := fun _ => True) (okp := fun _ => True) ?hr ?hp (fun _ hk => hk) trivial (Below.refl _ _) (Nat.le_refl _) (by simp) ?_; (case hd => rfl); (case hg => rfl); (case hr => first | (go_simp; done) | (go_simp; rfl)); (case hp => exact (Reps.c5 (show Kd.M k40 _ _ _ (⟨([] : List Int), 2, 0, (⟨1, 2⟩ : S38)⟩ : S40) [.slice none 0 0, .int .i64 2, .int .i64 0, .int .i64 1, .int .i64 2] from (k40_mkM _ _ _ (⟨([] : List Int), 2, 0, (⟨1, 2⟩ : S38)⟩ : S40) (Kd.R_nil _ _ _ _ _))) (Reps.c5 (show Kd.M k40 _ _ _ (⟨([] : List Int), 1, 0, (⟨3, 0⟩ : S38)⟩ : S40) [.slice none 0 0, .int .i64 1, .int .i64 0, .int .i64 3, .int .i64 0] from (k40_mkM _ _ _ (⟨([] : List Int), 1, 0, (⟨3, 0⟩ : S38)⟩ : S40) (Kd.R_nil _ _ _ _ _))) (Reps.c5 (show Kd.M k40 _ _ _ (⟨([] : List Int), 1, 0, (⟨3, 0⟩ : S38)⟩ : S40) [.slice none 0 0, .int .i64 1, .int .i64 0, .int .i64 3, .int .i64 0] from (k40_mkM _ _ _ (⟨([] : List Int), 1, 0, (⟨3, 0⟩ : S38)⟩ : S40) (Kd.R_nil _ _ _ _ _))) (Reps.c5 (show Kd.M k40 _ _ _ (⟨([] : List Int), 3, 0, (⟨0, 0⟩ : S38)⟩ : S40) [.slice none 0 0, .int .i64 3, .int .i64 0, .int .i64 0, .int .i64 0] from (k40_mkM _ _ _ (⟨([] : List Int), 3, 0, (⟨0, 0⟩ : S38)⟩ : S40) (Kd.R_nil _ _ _ _ _))) (Reps.none _ _)))))); intro v284 w2 ho3 hb hg_ hnew_; clear hg_ hnew_; (first | rw [← Ny283.out] at ho3 | (simp only [Int.reduceToNat] at ho3; rw [← Ny283.out] at ho3)); have n0_ := Aside0.mk (Kd.S_lower ho3 (below_size (by repeat (first | (with_reducible first | exact HB.out | apply below_alloc | apply pw_below_drewN | apply below_drew1 | refine below_set ?_ GE282.out) | exact HB.out)))); have n1_ := Aside0.mk (blk_below (g := gb282) (o := .cells #[.string (⟨#[]⟩ : ByteArray), .slice none 0 0, .string (⟨#[]⟩ : ByteArray), .slice none 0 0, .slice none 0 0, .slice none 0 0] 26 (0, 0)) (by (with_reducible repeat (first | refine blk_drewN ?_ _ | refine blk_drew ?_ | refine blk_alloc ?_ _)); exact BK282.out) hb); have n2_ := Aside0.mk (below_step (by repeat (first | (with_reducible first | exact HB.out | apply below_alloc | apply pw_below_drewN | apply below_drew1 | refine below_set ?_ GE282.out) | exact HB.out)) hb); clear BK282; clear HB; have HO285 := n0_; have BK282 := n1_; have HB := n2_; clear n0_ n1_ n2_; clear hb ho3; obtain ⟨Ao4, co4, eo4⟩ := Kd.S_slice HO285.out; subst eo4; have hcz5_0 : w2.cell? ⟨gb282, 0, none⟩ = some (.string (⟨#[]⟩ : ByteArray)) := (blk_cell BK282.out 0).trans rfl; have hcz5_1 : w2.cell? ⟨gb282, 1, none⟩ = some (.slice none 0 0) := (blk_cell BK282.out 1).trans rfl; have hcz5_2 : w2.cell? ⟨gb282, 2, none⟩ = some (.string (⟨#[]⟩ : ByteArray)) := (blk_cell BK282.out 2).trans rfl; have hcz5_3 : w2.cell? ⟨gb282, 3, none⟩ = some (.slice none 0 0) := (blk_cell BK282.out 3).trans rfl; have hcz5_4 : w2.cell? ⟨gb282, 4, none⟩ = some (.slice none 0 0) := (blk_cell BK282.out 4).trans rfl; have hcz5_5 : w2.cell? ⟨gb282, 5, none⟩ = some (.slice none 0 0) := (blk_cell BK282.out 5).trans rfl; have hfz5_0 := blk_frozen BK282.out 0; have hfz5_1 := blk_frozen BK282.out 1; have hfz5_2 := blk_frozen BK282.out 2; have hfz5_3 := blk_frozen BK282.out 3; have hfz5_4 := blk_frozen BK282.out 4; have hfz5_5 := blk_frozen BK282.out 5))
 refine bodyPost_ret (results_cell_row rfl _ _ gb282 26 #[.string (⟨#[]⟩ : ByteArray), .slice none 0 0, .string (⟨#[]⟩ : ByteArray), .slice none 0 0, .slice none 0 0, .slice Ao4 y283.length co4] (0, 0) _ rfl (by (with_reducible repeat (first | refine blk_drewN ?_ _ | refine blk_drew ?_ | refine blk_alloc ?_ _)); refine blk_put (cs := #[.string (⟨#[]⟩ : ByteArray), .slice none 0 0, .string (⟨#[]⟩ : ByteArray), .slice none 0 0, .slice none 0 0, .slice none 0 0]) ?_ 5 _ rfl; (with_reducible repeat (first | refine blk_drewN ?_ _ | refine blk_drew ?_ | refine blk_alloc ?_ _)); refine blk_put (cs := #[.string (⟨#[]⟩ : ByteArray), .slice none 0 0, .string (⟨#[]⟩ : ByteArray), .slice none 0 0, .slice none 0 0, .slice none 0 0]) ?_ 4 _ rfl; (with_reducible repeat (first | refine blk_drewN ?_ _ | refine blk_drew ?_ | refine blk_alloc ?_ _)); refine blk_put (cs := #[.string (⟨#[]⟩ : ByteArray), .slice none 0 0, .string (⟨#[]⟩ : ByteArray), .slice none 0 0, .slice none 0 0, .slice none 0 0]) ?_ 3 _ rfl; (with_reducible repeat (first | refine blk_drewN ?_ _ | refine blk_drew ?_ | refine blk_alloc ?_ _)); refine blk_put (cs := #[.string (⟨#[]⟩ : ByteArray), .slice none 0 0, .string (⟨#[]⟩ : ByteArray), .slice none 0 0, .slice none 0 0, .slice none 0 0]) ?_ 2 _ rfl; (with_reducible repeat (first | refine blk_drewN ?_ _ | refine blk_drew ?_ | refine blk_alloc ?_ _)); refine blk_put (cs := #[.string (⟨#[]⟩ : ByteArray), .slice none 0 0, .string (⟨#[]⟩ : ByteArray), .slice none 0 0, .slice none 0 0, .slice none 0 0]) ?_ 1 _ rfl; (with_reducible repeat (first | refine blk_drewN ?_ _ | refine blk_drew ?_ | refine blk_alloc ?_ _)); refine blk_put (cs := #[.string (⟨#[]⟩ : ByteArray), .slice none 0 0, .string (⟨#[]⟩ : ByteArray), .slice none 0 0, .slice none 0 0, .slice none 0 0]) ?_ 0 _ rfl; (with_reducible repeat (first | refine blk_drewN ?_ _ | refine blk_drew ?_ | refine blk_alloc ?_ _)); exact BK282.out) Try.underlying26 rfl (by kernel_rfl)) rfl ?_
 exact ⟨_, _, _, _, by first | rfl | (simp [errW_none, errW_some] <;> rfl) | (simp [*, errW_none, errW_some] <;> rfl), by first | exact Kd.R_nil _ _ _ _ _ | exact Kd.N_nil _ _ _ _ _ | exact Kd.V_nil _ _ _ _ _ | exact Kd.Q_nil _ _ _ _ _ | exact Kd.S_nil _ _ _ _ _, by first | exact Kd.R_nil _ _ _ _ _ | exact Kd.N_nil _ _ _ _ _ | exact Kd.V_nil _ _ _ _ _ | exact Kd.Q_nil _ _ _ _ _ | exact Kd.S_nil _ _ _ _ _, by first | exact Kd.S_nil _ _ _ _ _ | exact Kd.N_nil _ _ _ _ _ | exact Kd.V_nil _ _ _ _ _ | exact Kd.Q_nil _ _ _ _ _ | exact Kd.R_nil _ _ _ _ _, by (with_reducible repeat (first | apply Kd.S_alloc | apply Kd.S_drewN | apply Kd.S_drew)); exact Kd.S_mono (Kd.S_far (p := ⟨gb282, 5, none⟩) (Kd.S_far (p := ⟨gb282, 4, none⟩) (Kd.S_far (p := ⟨gb282, 3, none⟩) (Kd.S_far (p := ⟨gb282, 2, none⟩) (Kd.S_far (p := ⟨gb282, 1, none⟩) (Kd.S_far (p := ⟨gb282, 0, none⟩) (Kd.S_types HO285.out BK282.out (by decide)) (fun _ hk => hk.2) (.string (⟨#[]⟩ : ByteArray))) (fun _ hk => hk.2) (.slice none 0 0)) (fun _ hk => hk.2) (.string (⟨#[]⟩ : ByteArray))) (fun _ hk => hk.2) (.slice none 0 0)) (fun _ hk => hk.2) (.slice none 0 0)) (fun _ hk => hk.2) (.slice Ao4 y283.length co4)) (fun _ hk => trivial), by repeat (first | (with_reducible first | exact HB.out | apply below_alloc | apply pw_below_drewN | apply below_drew1 | refine below_set ?_ GE282.out) | exact HB.out)⟩

end Go.Proofs.Ytclhjalgflebfaa.Q

/- Rows of rows: an element is lent, turned, and stored again; 'dom.Front': by hand. -/

namespace Go.Proofs.Ytclhjalgflebfaa.Q
open Go.RowKit Go.Proofs.YtclhjalgflebfaaW.PrintWords Go.Proofs.YtclhjalgflebfaaW.PrintLast Go.Proofs.YtclhjalgflebfaaW.PrintMore
set_option linter.unusedVariables false
set_option linter.unusedSimpArgs false
section
variable {W : World} {base go n cap e e2 : Nat} {ok : Nat → Prop} {xs : List (List Int)}
/-- Element i, lent: what may be done with its row, and how it comes back. -/
theorem row_lend (h : Kd.S (Kd.slice e (Kd.int .i64)) e2 W base ok (.slice (some ⟨go, 0, none⟩) n cap) xs) (i : Int) (h0 : 0 ≤ i) (h1 : i < n) :
  ∃ (oki : Nat → Prop) (A : Option Addr) (c : Nat), W.cell? ⟨go, i.toNat, none⟩ = some (.slice A (rowOf xs i).length c) ∧ (Kd.int .i64).R e W base oki (.slice A (rowOf xs i).length c) (rowOf xs i) ∧ (∀ k, oki k → ok k ∧ k ≠ go) ∧
   ∀ (W1 : World) (A1 : Option Addr) (c1 : Nat) (ys : List Int), W.grownBy W1 (Value.slice A (rowOf xs i).length c).ownBlock → (Kd.int .i64).R e W1 base (fun k => oki k ∨ (ok k ∧ W.heap.size ≤ k)) (.slice A1 ys.length c1) ys →
    Kd.S (Kd.slice e (Kd.int .i64)) e2 (W1.setCell ⟨go, i.toNat, none⟩ (.slice A1 ys.length c1)) base ok (.slice (some ⟨go, 0, none⟩) n cap) (xs.set i.toNat ys) ∧ W1.grownBy (W1.setCell ⟨go, i.toNat, none⟩ (.slice A1 ys.length c1)) (some go) ∧
     W1.cell? ⟨go, i.toNat, none⟩ = some (.slice A (rowOf xs i).length c) ∧ W1.frozen? ⟨go, i.toNat, none⟩ = false := by
 have es : i.toNat * (Kd.slice e (Kd.int .i64)).sz = i.toNat := Nat.mul_one _
 obtain ⟨oki, cs, hcl, ⟨v, rfl, hR⟩, hcc, hfr, hoki, hH⟩ := Kd.S_elem h [] i h0 h1
 obtain ⟨A, c, rfl⟩ := Kd.R_slice hR
 have hcell := hcc 0 _ rfl
 rw [Nat.add_zero, es] at hcell
 refine ⟨oki, A, c, hcell, hR, hoki, fun W1 A1 c1 ys hg hR1 => ?_⟩
 have hH1 := Kd.H_grown (Kd.H_widen hH) hg (fun k hk => .inl (hR.1 k hk))
 obtain ⟨hca, hfa⟩ := Kd.H_at hH1 h0 h1
 have hx := hca 0 _ rfl
 have hf := hfa 0
 rw [Nat.add_zero, es] at hx hf
 have hP := Kd.S_seg0 hH1 h0 h1 (seg := [.slice A1 ys.length c1]) (j := 0) (show 1 ≤ 1 from by decide) (x' := ys) (Kd.M_row hR1) (fun _ hk => hk)
 rw [Nat.add_zero, es] at hP
 exact ⟨hP.1, hP.2, hx, hf⟩
end
/-- Whether the way up goes on. -/
def climbS (at_ nr : List Int) (K : Nat) (b p x : Int) : Option Bool :=
 if 0 ≤ p ∧ p < (at_.length : Int) then (if rd at_ p = -1 then some false else if x = -1 then some false else if x = b then some true else (isO at_ nr K x b).map (fun r => !r)) else none
def climbO (at_ nr : List Int) (K : Nat) (b p : Int) : Nat → Int → List (List Int) → Option (List (List Int))
 | 0, _, _ => none
 | k + 1, x, out => (climbS at_ nr K b p x).bind fun g => if g = true then (if 0 ≤ x ∧ x < (out.length : Int) ∧ x < (nr.length : Int) ∧ (rowOf out x).length < LIMF then climbO at_ nr K b p k (rd nr x) (out.set x.toNat (rowOf out x ++ [b])) else none) else some out
def frontB (at_ : List Int) (h : List (List Int)) (nr : List Int) (K : Nat) (out : List (List Int)) (b : Nat) : Option (List (List Int)) :=
 if b < h.length then (rowOf h (b : Int)).foldlM (fun out p => climbO at_ nr K (b : Int) p K p out) out else none
def sortC (l : List Int) : List Int := Lib.compact (l.mergeSort fun x y => decide (x ≤ y))
def dom_Front.f (a0_0 : ByteArray) (l0_1 : List ByteArray) (a0_2 : ByteArray) (l0_3 : List ByteArray) (l0_4 : List (S58)) (l0_5 : List (S40)) : Option (List (List Int)) := if l0_5.length = 0 then some [] else if 1000000 < l0_5.length then none else (growO a0_0 l0_1 a0_2 l0_3 l0_4 l0_5).bind fun t => ((List.range l0_5.length).foldlM (frontB t.2.1 t.2.2.1 t.2.2.2 (fuelD l0_5.length)) (List.replicate l0_5.length [])).bind fun out =>
 if out.length = l0_5.length ∧ (∀ r ∈ out, r.length < LIMF) then some (out.map sortC) else none
section
variable {w W : World} {bt bn bo go n cn co ca ch cap : Nat} {Aa Ah : Option Addr} {o at_ nr : List Int} {h : List (List Int)}
/-- The tree, read alone. -/
structure TC (W : World) (bt bn bo : Nat) (Aa Ah : Option Addr) (co ca ch cn : Nat) (o at_ : List Int) (h : List (List Int)) (nr : List Int) : Prop where
 blk : TBlk W bt (.slice (some ⟨bo, 0, none⟩) o.length co) Aa at_.length ca (.slice Ah h.length ch) (some ⟨bn, 0, none⟩) nr.length cn
 atr : (Kd.int .i64).C W Aa at_.length at_
 rows : (Kd.slice 3 (Kd.int .i64)).C W Ah h.length h
 nrr : (Kd.int .i64).C W (some ⟨bn, 0, none⟩) nr.length nr
theorem TC.below {W1 : World} (t : TC W bt bn bo Aa Ah co ca ch cn o at_ h nr) (hb : Below W.heap.size W W1) : TC W1 bt bn bo Aa Ah co ca ch cn o at_ h nr :=
 ⟨blk_below t.blk hb, Kd.C_below t.atr hb, Kd.C_below t.rows hb, Kd.C_below t.nrr hb⟩
end
set_option maxRecDepth 100000 in
set_option maxHeartbeats 4000000 in
theorem dom_Front.calls (a0_0 : ByteArray) (A0_1 : Option Addr) (c0_1 : Nat) (l0_1 : List ByteArray) (a0_2 : ByteArray) (A0_3 : Option Addr) (c0_3 : Nat) (l0_3 : List ByteArray) (A0_4 : Option Addr) (c0_4 : Nat) (l0_4 : List (S58)) (A0_5 : Option Addr) (c0_5 : Nat) (l0_5 : List (S40)) (r : List (List Int)) (w : World) (hr0_1 : Kd.C Kd.string w A0_1 l0_1.length l0_1) (hc0_1 : l0_1.length ≤ c0_1) (hr0_3 : Kd.C Kd.string w A0_3 l0_3.length l0_3) (hc0_3 : l0_3.length ≤ c0_3) (hr0_4 : Kd.C k58 w A0_4 l0_4.length l0_4) (hc0_4 : l0_4.length ≤ c0_4) (hr0_5 : Kd.C k40 w A0_5 l0_5.length l0_5) (hc0_5 : l0_5.length ≤ c0_5) (h : dom_Front.f a0_0 l0_1 a0_2 l0_3 l0_4 l0_5 = some r) :
  Calls Try.prog 45 #[.agg #[.string a0_0, .slice A0_1 l0_1.length c0_1, .string a0_2, .slice A0_3 l0_3.length c0_3, .slice A0_4 l0_4.length c0_4, .slice A0_5 l0_5.length c0_5]] w fun e w' => ∃ v0_ : Value, e = .returned (v0_) ∧ Kd.S (Kd.slice 3 (Kd.int .i64)) 34 w' w.heap.size (fun _ => True) v0_ r ∧ Below w.heap.size w w' := by
 unfold dom_Front.f at h
 have hb0 := below_alloc (Below.refl w.heap.size w) (.cells #[.string a0_0, .slice A0_1 l0_1.length c0_1, .string a0_2, .slice A0_3 l0_3.length c0_3, .slice A0_4 l0_4.length c0_4, .slice A0_5 l0_5.length c0_5] 26)
 have HB0 := Aside0.mk hb0; clear hb0
 have hblk := blk_new w (.cells #[.string a0_0, .slice A0_1 l0_1.length c0_1, .string a0_2, .slice A0_3 l0_3.length c0_3, .slice A0_4 l0_4.length c0_4, .slice A0_5 l0_5.length c0_5] 26)
 have HBX := Aside0.mk hblk; clear hblk
 by_cases hz : l0_5.length = 0
 ·rw [if_pos hz] at h
  obtain rfl := Option.some.inj h
  have HZ := Aside0.mk hz
  have hd0 : decide ((0 : Int) < (l0_5.length : Int)) = false := decide_eq_false (by omega)
  have hdn : decide (0 < l0_5.length) = false := decide_eq_false (by omega)
  have hdn2 : ¬ 0 < l0_5.length := by omega
  clear hz h
  go_enter Try.func45, Try.ntmps45
  go_wp2_with fail
  refine (grow_nil a0_0 A0_1 c0_1 l0_1 a0_2 A0_3 c0_3 l0_3 A0_4 c0_4 l0_4 A0_5 c0_5 l0_5 _ HZ.out).mono ?_
  rintro e W1 ⟨rfl, hb1⟩
  have HB1 := Aside0.mk (below_step HB0.out hb1)
  have hc5 := blk_cell (blk_below HBX.out hb1) 5
  have HC5 := Aside0.mk (blk_below HBX.out hb1)
  clear hb1
  go_wp2_with (first | ((with_reducible refine gate_dst (N := 15) rfl ?_); refine Kd.S_make (w0 := W1) (Kd.slice 3 (Kd.int .i64)) W1.heap.size 34 rfl (N := 15) rfl 29 _ _ rfl (l0_5.length : Int) rfl rfl Try.underlying29 (.slice none 0 0) 24 info34 rfl (by decide) (by omega) [] (ok := fun _ => True) (okp := fun _ => True) ⟨_, rfl, Kd.R_nil _ _ _ _ _⟩ (fun _ hk => hk) trivial (Int.natCast_nonneg _) ?_ (Below.refl _ _) (Nat.le_refl _) ?_; (focus (rw [Int.toNat_natCast]; have := HZ.out; omega)); intro vs W2 hS hb hg hnew; rw [Int.toNat_natCast] at hS; obtain ⟨A, c, rfl⟩ := Kd.S_slice hS; have HS := Aside0.mk hS; have HB2 := Aside0.mk (below_step HB1.out hb); have hc5b := blk_cell (blk_below HC5.out hb) 5; clear hS hb hg hnew hc5))
  go_loopg [19] 1 (fun kq v19 wr => v19 = .int .i64 0 ∧ Aside0 (wr = W2))
  case atStart => exact ⟨rfl, ⟨rfl⟩⟩
  case round =>
   obtain ⟨rfl, HW⟩ := hrel
   obtain rfl := HW.out
   go_wp2
   go_loopg [80] 1 (fun kq v80 wr2 => v80 = .int .i64 0 ∧ Aside0 (wr2 = wr))
   case atStart => exact ⟨rfl, ⟨rfl⟩⟩
   case round =>
    obtain ⟨rfl, HW2⟩ := hrel
    obtain rfl := HW2.out
    go_wp2
    go_ret
    refine ⟨_, rfl, ?_, HB2.out⟩
    have h1 := Kd.S_lower HS.out HB1.out.size
    have h2 : List.replicate l0_5.length ([] : List Int) = [] := by rw [HZ.out]; rfl
    have h3 : (List.replicate l0_5.length ([] : List Int)).length = l0_5.length := List.length_replicate
    rw [h3, h2] at h1
    exact h1
 ·rw [if_neg hz] at h
  split at h
  case isTrue => cases h
  rename_i hbig
  have HBIG : Aside0 (l0_5.length ≤ 1000000) := ⟨by omega⟩
  clear hbig
  obtain ⟨⟨r1, at_, hh, nr⟩, hg, h⟩ := Option.bind_eq_some_iff.mp h
  obtain ⟨out, hf, h⟩ := Option.bind_eq_some_iff.mp h
  split at h
  case isFalse => cases h
  rename_i hol
  have e := Option.some.inj h
  subst e
  clear h
  simp only at hf
  have HG := Aside0.mk hg; have HF := Aside0.mk hf; have HOL := Aside0.mk hol.1; have HOR := Aside0.mk hol.2; clear hg hf hol
  have HZ : Aside0 (0 < l0_5.length) := ⟨by omega⟩
  clear hz
  go_enter Try.func45, Try.ntmps45
  go_wp2_with fail
  refine (grow_calls a0_0 A0_1 c0_1 l0_1 a0_2 A0_3 c0_3 l0_3 A0_4 c0_4 l0_4 A0_5 c0_5 l0_5 r1 at_ hh nr _ (Kd.C_below hr0_1 HB0.out) hc0_1 (Kd.C_below hr0_3 HB0.out) hc0_3 (Kd.C_below hr0_4 HB0.out) hc0_4 (Kd.C_below hr0_5 HB0.out) hc0_5 HG.out).mono ?_
  rintro e W1 ⟨bt, bo, ba, bn, Ah, co, ca, ch, cn, rfl, hT, hR, hb1⟩
  have HT : Aside0 (TC W1 bt bn bo (some ⟨ba, 0, none⟩) Ah co ca ch cn r1 at_ hh nr) := ⟨hT.blk, hT.atr _ (KeepBut.refl _ _ _), hT.rows _ (KeepBut.refl _ _ _), (Kd.R_reads' hR).2.2⟩
  have HB1 := Aside0.mk (below_step HB0.out hb1)
  have hc5 := blk_cell (blk_below HBX.out hb1) 5
  have HC5 := Aside0.mk (blk_below HBX.out hb1)
  clear hT hR hb1
  go_wp2_with (first | ((with_reducible refine gate_dst (N := 15) rfl ?_); refine Kd.S_make (w0 := W1) (Kd.slice 3 (Kd.int .i64)) W1.heap.size 34 rfl (N := 15) rfl 29 _ _ rfl (l0_5.length : Int) rfl rfl Try.underlying29 (.slice none 0 0) 24 info34 rfl (by decide) (by omega) [] (ok := fun _ => True) (okp := fun _ => True) ⟨_, rfl, Kd.R_nil _ _ _ _ _⟩ (fun _ hk => hk) trivial (Int.natCast_nonneg _) ?_ (Below.refl _ _) (Nat.le_refl _) ?_; (focus (rw [Int.toNat_natCast]; have := HBIG.out; omega)); intro vs W2 hS hb hg hnew; rw [Int.toNat_natCast] at hS; obtain ⟨go, cap, rfl, hgo, -⟩ := Kd.S_form hS (by rw [List.length_replicate]; exact HZ.out); simp only [List.length_replicate] at hS; have HS := Aside0.mk hS; have HB2 := Aside0.mk hb; have HGO := Aside0.mk hgo; have hc5b := blk_cell (blk_below HC5.out hb) 5; clear hS hb hgo hg hnew hc5))
  have hlenz : (List.replicate l0_5.length ([] : List Int)).length = l0_5.length := List.length_replicate
  go_loopg [19] l0_5.length (fun kq v19 wr => ∃ (i : Nat) (out1 : List (List Int)), v19 = .int .i64 i ∧ i + kq = l0_5.length ∧ Aside0 (((List.range l0_5.length).drop i).foldlM (frontB at_ hh nr (fuelD l0_5.length)) out1 = some out) ∧ Aside0 (out1.length = l0_5.length) ∧ Aside0 (Below W1.heap.size W1 wr) ∧ Aside0 (Kd.S (Kd.slice 3 (Kd.int .i64)) 34 wr W1.heap.size (fun _ => True) (.slice (some ⟨go, 0, none⟩) l0_5.length cap) out1))
  case atStart => exact ⟨0, _, rfl, Nat.zero_add _, HF, ⟨hlenz⟩, HB2, HS⟩
  case round =>
   clear HF HB2 HS hc5b
   obtain ⟨i, out1, rfl, hik, HF, HOL1, HB2, HS⟩ := hrel
   have hbig := HBIG.out
   by_cases hlt : i < l0_5.length
   ·obtain ⟨k1, rfl⟩ : ∃ k1, gk = k1 + 1 := ⟨gk - 1, by omega⟩
    have hd : (List.range l0_5.length).drop i = i :: (List.range l0_5.length).drop (i + 1) := by rw [List.drop_eq_getElem_cons (by rw [List.length_range]; exact hlt), List.getElem_range]
    have hf := HF.out
    clear HF
    rw [hd, List.foldlM_cons] at hf
    obtain ⟨outN, hs, hf2⟩ := Option.bind_eq_some_iff.mp hf
    have HF2 := Aside0.mk hf2
    clear hf hf2 hd
    unfold frontB at hs
    split at hs
    case isFalse => cases hs
    rename_i hih
    have HSS := Aside0.mk hs; clear hs
    have hk2 := blk_cell (HT.out.below HB2.out).blk 2
    obtain ⟨adr, Ai, ci, er, hrow, hrl, hrC⟩ := row_at HT.out.rows (i : Int) (by omega) (by omega)
    cases er
    rw [Int.toNat_natCast] at hrow
    replace hrow := pw_cell_below HB2.out hrow
    have HRC := Aside0.mk hrC; clear hrC
    go_wp2
    go_loopg [30] (rowOf hh (i : Int)).length (fun kq v30 wr2 => ∃ (j : Nat) (out2 : List (List Int)), v30 = .int .i64 j ∧ j + kq = (rowOf hh (i : Int)).length ∧ Aside0 (((rowOf hh (i : Int)).drop j).foldlM (fun out p => climbO at_ nr (fuelD l0_5.length) (i : Int) p (fuelD l0_5.length) p out) out2 = some outN) ∧ Aside0 (out2.length = l0_5.length) ∧ Aside0 (Below W1.heap.size W1 wr2) ∧ Aside0 (Kd.S (Kd.slice 3 (Kd.int .i64)) 34 wr2 W1.heap.size (fun _ => True) (.slice (some ⟨go, 0, none⟩) l0_5.length cap) out2))
    case atStart => exact ⟨0, _, rfl, Nat.zero_add _, HSS, HOL1, HB2, HS⟩
    case round =>
     clear HSS HB2 HS hrow hk2 HOL1
     obtain ⟨j, out2, rfl, hjk, HSS, HOL2, HB2, HS⟩ := hrel
     have hrm := Kd.C_max HRC.out
     by_cases hj : j < (rowOf hh (i : Int)).length
     ·obtain ⟨k2, rfl⟩ : ∃ k2, gk = k2 + 1 := ⟨gk - 1, by omega⟩
      obtain ⟨adp, ep, hp⟩ := Kd.at_int (Kd.C_below HRC.out HB2.out) (j : Int) (by omega) (by omega)
      cases ep
      obtain ⟨p, ep⟩ : ∃ p, p = rd (rowOf hh (i : Int)) (j : Int) := ⟨_, rfl⟩
      rw [← ep, Int.toNat_natCast] at hp
      have hd : (rowOf hh (i : Int)).drop j = p :: (rowOf hh (i : Int)).drop (j + 1) := by
       rw [ep]; unfold rd
       rw [Int.toNat_natCast, getD_at _ _ hj, List.drop_eq_getElem_cons hj]
      have hf := HSS.out
      clear HSS
      rw [hd, List.foldlM_cons] at hf
      obtain ⟨outP, hs, hf2⟩ := Option.bind_eq_some_iff.mp hf
      have HF3 := Aside0.mk hf2
      have HS3 := Aside0.mk hs
      clear hf hf2 hs hd ep
      go_wp2
      go_loopg [8] (fuelD l0_5.length) (fun kq v8 wr3 => ∃ (x : Int) (out3 : List (List Int)), v8 = .int .i64 x ∧ Aside0 (climbO at_ nr (fuelD l0_5.length) (i : Int) p kq x out3 = some outP) ∧ Aside0 (kq ≤ fuelD l0_5.length) ∧ Aside0 (out3.length = l0_5.length) ∧ Aside0 (Below W1.heap.size W1 wr3) ∧ Aside0 (Kd.S (Kd.slice 3 (Kd.int .i64)) 34 wr3 W1.heap.size (fun _ => True) (.slice (some ⟨go, 0, none⟩) l0_5.length cap) out3))
      case atStart => exact ⟨p, _, rfl, HS3, ⟨Nat.le_refl _⟩, HOL2, HB2, HS⟩
      case round =>
       clear HS3 HOL2 HB2 HS hp
       obtain ⟨x, out3, rfl, HS3, HK3, HOL3, HB4, HS4⟩ := hrel
       cases gk with
       | zero => exact absurd HS3.out (by simp [climbO])
       | succ k3 =>
        have hf := HS3.out
        clear HS3
        rw [climbO] at hf
        obtain ⟨g, hc1, hc2⟩ := Option.bind_eq_some_iff.mp hf
        clear hf
        unfold climbS at hc1
        split at hc1
        case isFalse => cases hc1
        rename_i hpb
        have hk1 := blk_cell (HT.out.below HB4.out).blk 1
        obtain ⟨ada, ea, hxa⟩ := Kd.at_int (HT.out.below HB4.out).atr p hpb.1 hpb.2
        cases ea
        replace hxa : wr.cell? ⟨ba, p.toNat, none⟩ = some (.int .i64 (rd at_ p)) := by rw [add_plain] at hxa; simpa using hxa
        have hp0 := hpb.1
        have hp1 := hpb.2
        by_cases h1 : rd at_ p = -1
        ·rw [if_pos h1] at hc1
         have e := Option.some.inj hc1
         subst e
         simp only [Bool.false_eq_true, if_false, Option.some.injEq] at hc2
         subst hc2
         clear hc1
         have hd1 : (rd at_ p != -1) = false := bne_eq_false_iff_eq.mpr h1
         go_wp2
         go_roundg k2
         case measure => omega
         case rel => exact ⟨j + 1, _, by go_num, by omega, HF3, HOL3, HB4, HS4⟩
        ·rw [if_neg h1] at hc1
         have hd1 : (rd at_ p != -1) = true := bne_iff_ne.mpr h1
         by_cases h2 : x = -1
         ·rw [if_pos h2] at hc1
          have e := Option.some.inj hc1
          subst e
          simp only [Bool.false_eq_true, if_false, Option.some.injEq] at hc2
          subst hc2 h2
          clear hc1
          go_wp2
          go_roundg k2
          case measure => omega
          case rel => exact ⟨j + 1, _, by go_num, by omega, HF3, HOL3, HB4, HS4⟩
         ·rw [if_neg h2] at hc1
          have hd2 : (x != -1) = true := bne_iff_ne.mpr h2
          by_cases h3 : x = (i : Int)
          ·rw [if_pos h3] at hc1
           have e := Option.some.inj hc1
           subst e
           clear hc1
           have hd3 : (x == (i : Int)) = true := beq_iff_eq.mpr h3
           clear h3
           simp only [if_true] at hc2
           split at hc2
           case isFalse => cases hc2
           rename_i hxx
           obtain ⟨hx0, hx1, hxn1, hxl⟩ := hxx
           have HXL := Aside0.mk hxl; clear hxl
           have hk4 := blk_cell (HT.out.below HB4.out).blk 3
           have hx1' : x < (l0_5.length : Int) := by have := HOL3.out; omega
           clear hx1
           obtain ⟨oki, A, c, hcell, hRL, hoki, hput⟩ := row_lend HS4.out x hx0 hx1'
           have HRL := Aside0.mk hRL; have HPUT := Aside0.mk hput
           clear hRL hput hoki
           obtain ⟨y, hy⟩ : ∃ y, y = rowOf out3 x ++ [(i : Int)] := ⟨_, rfl⟩
           rw [← hy] at hc2
           have HY := Aside0.mk hy; clear hy
           have HC2 := Aside0.mk hc2; clear hc2
           go_wp2_with (first | ((with_reducible refine gate_builtin (b := .append) (xs := #[.tmp 71, .tmp 73]) rfl ?_); at_builtin; refine Kd.R_append (Kd.int .i64) (w0 := W1) W1.heap.size rfl (.tmp 71) (.tmp 73) 34 3 (.int .i64 0) 8 rfl Try.underlying34 info3 rfl (by decide) (by omega) (.slice A (rowOf out3 x).length c) (rowOf out3 x) (i : Int) [.int .i64 (i : Int)] (fun k_ => oki k_ ∨ (True ∧ wr.heap.size ≤ k_)) (fun _ => False) rfl rfl ?aP (fun _ hk => hk.elim) ?aF ?aO ?aB ?aS ?aL ?_; (case aP => exact rfl); (case aF => exact fun k hk => .inr ⟨trivial, hk⟩); (case aO => exact Kd.R_mono HRL.out (fun _ hk => .inl hk)); (case aB => exact HB4.out); (case aS => exact HB4.out.size); (case aL => have := HXL.out; unfold LIMF at this; omega); intro v1 w5 ho hb hg hat; rw [← HY.out] at ho; obtain ⟨A1, c1, rfl⟩ := Kd.R_slice ho; obtain ⟨hS5, hg5, hcc, hff⟩ := HPUT.out w5 A1 c1 y hg ho; have HS5 := Aside0.mk hS5; have hB5 := Below.grown hb hg5 hb.size (fun k hk => by injection hk with hk; rw [← hk]; exact HGO.out); have HB5 := Aside0.mk hB5; clear ho hb hg hat hS5 hg5 hB5 hk4 hcell; have hk6 := blk_cell (HT.out.below HB5.out).blk 3; obtain ⟨adn, en, hxn⟩ := Kd.at_int (HT.out.below HB5.out).nrr x hx0 hxn1; cases en; replace hxn : (w5.setCell ⟨go, x.toNat, none⟩ (.slice A1 y.length c1)).cell? ⟨bn, x.toNat, none⟩ = some (.int .i64 (rd nr x)) := (by rw [add_plain] at hxn; simpa using hxn)))
           go_roundg k3
           case measure => have := HK3.out; omega
           case rel => exact ⟨_, out3.set x.toNat y, by first | rfl | (simp; done), HC2, ⟨by have := HK3.out; omega⟩, ⟨by rw [List.length_set]; exact HOL3.out⟩, HB5, HS5⟩
          ·rw [if_neg h3] at hc1
           have hd3 : (x == (i : Int)) = false := beq_eq_false_iff_ne.mpr h3
           obtain ⟨ri, hi, e⟩ := Option.map_eq_some_iff.mp hc1
           have HI := Aside0.mk hi
           clear hc1 hi
           subst e
           go_wp2_with fail
           refine (is_calls (fuelD l0_5.length) x (i : Int) ri HI.out (HT.out.below HB4.out).blk (HT.out.below HB4.out).atr (HT.out.below HB4.out).nrr).mono ?_
           rintro e w4 ⟨rfl, hd4⟩
           have HS4' := Aside0.mk (Kd.S_below HS4.out hd4.below)
           have HB4' := Aside0.mk (below_step HB4.out hd4.below)
           clear HS4 HB4 hd4 hk1 hxa
           have HS4 := HS4'; have HB4 := HB4'
           clear HS4' HB4'
           cases ri with
           | true =>
            simp only [Bool.not_true, Bool.false_eq_true, if_false, Option.some.injEq] at hc2
            subst hc2
            go_wp2
            go_roundg k2
            case measure => omega
            case rel => exact ⟨j + 1, _, by go_num, by omega, HF3, HOL3, HB4, HS4⟩
           | false =>
            simp only [Bool.not_false] at hc2
            simp only [if_true] at hc2
            split at hc2
            case isFalse => cases hc2
            rename_i hxx
            obtain ⟨hx0, hx1, hxn1, hxl⟩ := hxx
            have HXL := Aside0.mk hxl; clear hxl
            have hk4 := blk_cell (HT.out.below HB4.out).blk 3
            have hx1' : x < (l0_5.length : Int) := by have := HOL3.out; omega
            clear hx1
            obtain ⟨oki, A, c, hcell, hRL, hoki, hput⟩ := row_lend HS4.out x hx0 hx1'
            have HRL := Aside0.mk hRL; have HPUT := Aside0.mk hput
            clear hRL hput hoki
            obtain ⟨y, hy⟩ : ∃ y, y = rowOf out3 x ++ [(i : Int)] := ⟨_, rfl⟩
            rw [← hy] at hc2
            have HY := Aside0.mk hy; clear hy
            have HC2 := Aside0.mk hc2; clear hc2
            go_wp2_with (first | ((with_reducible refine gate_builtin (b := .append) (xs := #[.tmp 71, .tmp 73]) rfl ?_); at_builtin; refine Kd.R_append (Kd.int .i64) (w0 := W1) W1.heap.size rfl (.tmp 71) (.tmp 73) 34 3 (.int .i64 0) 8 rfl Try.underlying34 info3 rfl (by decide) (by omega) (.slice A (rowOf out3 x).length c) (rowOf out3 x) (i : Int) [.int .i64 (i : Int)] (fun k_ => oki k_ ∨ (True ∧ w4.heap.size ≤ k_)) (fun _ => False) rfl rfl ?aP (fun _ hk => hk.elim) ?aF ?aO ?aB ?aS ?aL ?_; (case aP => exact rfl); (case aF => exact fun k hk => .inr ⟨trivial, hk⟩); (case aO => exact Kd.R_mono HRL.out (fun _ hk => .inl hk)); (case aB => exact HB4.out); (case aS => exact HB4.out.size); (case aL => have := HXL.out; unfold LIMF at this; omega); intro v1 w5 ho hb hg hat; rw [← HY.out] at ho; obtain ⟨A1, c1, rfl⟩ := Kd.R_slice ho; obtain ⟨hS5, hg5, hcc, hff⟩ := HPUT.out w5 A1 c1 y hg ho; have HS5 := Aside0.mk hS5; have hB5 := Below.grown hb hg5 hb.size (fun k hk => by injection hk with hk; rw [← hk]; exact HGO.out); have HB5 := Aside0.mk hB5; clear ho hb hg hat hS5 hg5 hB5 hk4 hcell; have hk6 := blk_cell (HT.out.below HB5.out).blk 3; obtain ⟨adn, en, hxn⟩ := Kd.at_int (HT.out.below HB5.out).nrr x hx0 hxn1; cases en; replace hxn : (w5.setCell ⟨go, x.toNat, none⟩ (.slice A1 y.length c1)).cell? ⟨bn, x.toNat, none⟩ = some (.int .i64 (rd nr x)) := (by rw [add_plain] at hxn; simpa using hxn)))
            go_roundg k3
            case measure => have := HK3.out; omega
            case rel => exact ⟨_, out3.set x.toNat y, by first | rfl | (simp; done), HC2, ⟨by have := HK3.out; omega⟩, ⟨by rw [List.length_set]; exact HOL3.out⟩, HB5, HS5⟩
     ·have hf := HSS.out
      rw [List.drop_eq_nil_of_le (by omega)] at hf
      have e := Option.some.inj hf
      clear hf HSS
      subst e
      go_wp2
      go_roundg k1
      case measure => omega
      case rel => exact ⟨i + 1, _, by go_num, by omega, HF2, HOL2, HB2, HS⟩
   ·have hf := HF.out
    rw [List.drop_eq_nil_of_le (by rw [List.length_range]; omega)] at hf
    have e := Option.some.inj hf
    clear hf HF
    subst e
    have hol1 := HOL1.out
    clear HG HC5
    go_wp2
    go_loopg [80] l0_5.length (fun kq v80 wr2 => ∃ (i2 : Nat) (out2 : List (List Int)), v80 = .int .i64 i2 ∧ i2 + kq = l0_5.length ∧ Aside0 (out2 = (out1.take i2).map sortC ++ out1.drop i2) ∧ Aside0 (Below W1.heap.size W1 wr2) ∧ Aside0 (Kd.S (Kd.slice 3 (Kd.int .i64)) 34 wr2 W1.heap.size (fun _ => True) (.slice (some ⟨go, 0, none⟩) l0_5.length cap) out2))
    case atStart => exact ⟨0, out1, rfl, Nat.zero_add _, ⟨by simp⟩, HB2, HS⟩
    case round =>
     clear HB2 HS
     obtain ⟨i2, out2, rfl, hik2, HE, HB2, HS⟩ := hrel
     by_cases hlt2 : i2 < l0_5.length
     ·obtain ⟨k2, rfl⟩ : ∃ k2, gk = k2 + 1 := ⟨gk - 1, by omega⟩
      obtain ⟨oki, A, c, hcell, hRL, hoki, hput⟩ := row_lend HS.out (i2 : Int) (by omega) (by omega)
      rw [Int.toNat_natCast] at hcell
      obtain ⟨row, hrow⟩ : ∃ row, row = rowOf out2 (i2 : Int) := ⟨_, rfl⟩
      rw [← hrow] at hcell hRL hput
      have hre : row = out1[i2]'(by omega) := by
       rw [hrow, HE.out]
       unfold rowOf
       rw [Int.toNat_natCast, List.getD_eq_getElem?_getD, List.getElem?_append_right (by rw [List.length_map, List.length_take]; omega), List.length_map, List.length_take, Nat.min_eq_left (by omega), Nat.sub_self, List.getElem?_drop, Nat.add_zero, List.getElem?_eq_getElem (by omega)]
       rfl
      have hrl : row.length < LIMF := by rw [hre]; exact HOR.out _ (List.getElem_mem _)
      have HRE := Aside0.mk hre; have HROW := Aside0.mk hrow; have HPUT := Aside0.mk hput; have HRL := Aside0.mk hRL
      clear hre hrow hput hRL hoki
      have HLEN := Aside0.mk hrl; clear hrl
      go_wp2_with fail
      refine (sort_R HRL.out (by have := HLEN.out; unfold LIMF at this; omega)).mono ?_
      rintro e w3 ⟨rfl, hR3, hg3⟩
      obtain ⟨so, hso⟩ : ∃ so, so = row.mergeSort (fun x y => decide (x ≤ y)) := ⟨_, rfl⟩
      rw [← hso] at hR3
      have hsl : so.length = row.length := by rw [hso, List.length_mergeSort]
      have hR3' : (Kd.int .i64).R 3 w3 W1.heap.size (fun k => oki k ∨ (True ∧ wr.heap.size ≤ k)) (.slice A so.length c) so := by rw [hsl]; exact Kd.R_mono hR3 (fun _ hk => .inl hk)
      obtain ⟨_, _, hcc3, hff3⟩ := HPUT.out w3 A c so hg3 hR3'
      rw [Int.toNat_natCast] at hcc3 hff3
      have HR3 := Aside0.mk hR3; have HG3 := Aside0.mk hg3; have HSO := Aside0.mk hso
      clear hR3 hg3 hR3' hcell hso hsl
      go_wp2_with fail
      refine (compact_R HR3.out).mono ?_
      rintro e w4 ⟨v4, rfl, hR4, hg4, hob⟩
      obtain ⟨A1, c1, rfl⟩ := Kd.R_slice hR4
      obtain ⟨y, hy⟩ : ∃ y, y = Lib.compact so := ⟨_, rfl⟩
      rw [← hy] at hR4 hob
      obtain ⟨hS5, hg5, hcc5, hff5⟩ := HPUT.out w4 A1 c1 y (World.grownBy.trans HG3.out hg4) (Kd.R_mono hR4 (fun _ hk => .inl hk))
      rw [Int.toNat_natCast] at hS5 hg5 hcc5 hff5
      have hB5 : Below W1.heap.size W1 (w4.setCell ⟨go, i2, none⟩ (.slice A1 y.length c1)) := Below.grown (Below.grown HB2.out (World.grownBy.trans HG3.out hg4) HB2.out.size (fun k hk => Kd.R_base HRL.out k hk)) hg5 (Nat.le_trans HB2.out.size (World.grownBy.trans HG3.out hg4).size) (fun k hk => by injection hk with hk; rw [← hk]; exact HGO.out)
      have HB5 := Aside0.mk hB5; have HS5 := Aside0.mk hS5; have HY := Aside0.mk hy
      rw [← HY.out]
      clear hB5 hS5 hg5 hR4 hg4 hob hy hcc3 hff3
      go_wp2
      go_roundg k2
      case measure => omega
      case rel =>
       refine ⟨i2 + 1, out2.set i2 y, by go_num, by omega, ⟨?_⟩, HB5, HS5⟩
       rw [HE.out, HY.out, HSO.out, HRE.out, List.set_append_right _ _ (by rw [List.length_map, List.length_take]; omega), List.length_map, List.length_take, Nat.min_eq_left (by omega), Nat.sub_self, List.drop_eq_getElem_cons (by omega), List.set_cons_zero, List.take_add_one, List.getElem?_eq_getElem (by omega), List.map_append, List.append_assoc]
       rfl
     ·have he := HE.out
      rw [List.take_of_length_le (by omega), List.drop_eq_nil_of_le (by omega), List.append_nil] at he
      have HE2 := Aside0.mk he
      clear he HE
      go_wp2
      go_ret
      refine ⟨_, rfl, ?_, below_step HB1.out HB2.out⟩
      rw [← HE2.out]
      exact Kd.S_lower HS.out HB1.out.size
end Go.Proofs.Ytclhjalgflebfaa.Q

/- 'slices.Clone' at []int: by hand. -/

namespace Go.Proofs.Ytclhjalgflebfaa.Q
open Go.RowKit Go.Proofs.YtclhjalgflebfaaW.PrintWords Go.Proofs.YtclhjalgflebfaaW.PrintLast Go.Proofs.YtclhjalgflebfaaW.PrintMore
set_option linter.unusedVariables false
set_option linter.unusedSimpArgs false
set_option maxRecDepth 100000 in
set_option maxHeartbeats 2000000 in
theorem clone_calls (A : Option Addr) (c : Nat) (l : List Int) (w : World) (hr : (Kd.int .i64).C w A l.length l) (hc : l.length ≤ c) (hl : l.length ≤ 1000000) :
  Calls Try.prog 69 #[.slice A l.length c] w fun e w' => ∃ v0_ : Value, e = .returned (v0_) ∧ Kd.R (Kd.int .i64) 3 w' w.heap.size (fun _ => True) v0_ l ∧ Below w.heap.size w w' := by
 have HR := Aside0.mk hr
 have HL := Aside0.mk hl
 cases A with
 | none =>
  have heq : ∀ W : World, (binOp .eql 34 (.slice none l.length c) (.slice none 0 0)).run Try.prog W = .ok (.bool true) W := fun W => rfl
  have h0 : l = [] := by
   by_cases h : 0 < l.length
   ·obtain ⟨ad, e, _⟩ := hr.2.2 h
    cases e
   ·exact List.eq_nil_of_length_eq_zero (by omega)
  have H0 := Aside0.mk h0; clear h0
  clear hr hl
  go_enter Try.func69, Try.ntmps69
  go_wp2
  go_ret
  exact ⟨_, rfl, by rw [H0.out]; exact Kd.R_nil _ _ _ _ _, Below.refl _ _⟩
 | some ad =>
  have heq : ∀ W : World, (binOp .eql 34 (.slice (some ad) l.length c) (.slice none 0 0)).run Try.prog W = .ok (.bool false) W := fun W => rfl
  clear hr hl
  go_enter Try.func69, Try.ntmps69
  go_wp2_with (first | ((with_reducible refine gate_dst (N := 5) rfl ?_); refine Kd.R_lit (Kd.int .i64) (w0 := w) w.heap.size 3 ?hg (N := 5) ?hd (xs := ([] : List Int)) (inner := []) (ok := fun _ => True) (okp := fun _ => True) ?hr ?hp (fun _ hk => hk) trivial (Below.refl _ _) (Nat.le_refl _) (by simp) ?_; (case hd => rfl); (case hg => rfl); (case hr => first | (go_simp; done) | (go_simp; rfl)); (case hp => exact Reps.none _ _); intro v1 w1 ho hb hg_ hnew_; have HO := Aside0.mk ho; have HB := Aside0.mk hb; clear ho hb hg_ hnew_) | ((with_reducible refine gate_builtin (b := .append) (xs := #[.tmp 5, .tmp 6]) rfl ?_); at_builtin; refine Kd.R_append_rows (Kd.int .i64) (Rr := (Kd.int .i64).K w1) (w0 := w) w.heap.size rfl (.tmp 5) (.tmp 6) 34 3 (.int .i64 0) 8 rfl Try.underlying34 info3 rfl (by decide) (by omega) v1 [] l (some ad) l.length c (fun _ => True) (fun _ => False) rfl rfl HO.out (Kd.C_below HR.out HB.out) (fun _ _ hk => hk) (fun _ hk => hk.elim) (fun _ _ => trivial) HB.out HB.out.size ?aL ?_; (case aL => have := HL.out; simp; omega); intro v2 w2 ho hb hg_ hat_; have HO2 := Aside0.mk ho; have HB2 := Aside0.mk hb; clear ho hb hg_ hat_))
  go_ret
  exact ⟨_, rfl, HO2.out, HB2.out⟩
end Go.Proofs.Ytclhjalgflebfaa.Q

/- 'dom.Fronts': by hand. -/

namespace Go.Proofs.Ytclhjalgflebfaa.Q
open Go.RowKit Go.Proofs.YtclhjalgflebfaaW.PrintWords Go.Proofs.YtclhjalgflebfaaW.PrintLast Go.Proofs.YtclhjalgflebfaaW.PrintMore
set_option linter.unusedVariables false
set_option linter.unusedSimpArgs false
def stepX (s : List Int × List Int × List Int) (x : Int) : Option (List Int × List Int × List Int) :=
 if 0 ≤ x ∧ x < 1000000 ∧ s.1.length < 1000000 ∧ s.2.1.length < 1000000 ∧ s.2.2.length < 1000000 then some (if x ∈ s.1 then s else (x :: s.1, s.2.1 ++ [x], s.2.2 ++ [x])) else none
def loopF (front : List (List Int)) : Nat → List Int × List Int × List Int → Option (List Int)
 | 0, _ => none
 | k + 1, s => if s.2.2.length = 0 then some s.2.1 else
   if rd s.2.2 ((s.2.2.length - 1 : Nat) : Int) < 0 ∨ (front.length : Int) ≤ rd s.2.2 ((s.2.2.length - 1 : Nat) : Int) then loopF front k (s.1, s.2.1, s.2.2.take (s.2.2.length - 1))
   else ((rowOf front (rd s.2.2 ((s.2.2.length - 1 : Nat) : Int))).foldlM stepX (s.1, s.2.1, s.2.2.take (s.2.2.length - 1))).bind (loopF front k)
def sumL (front : List (List Int)) : Nat := (front.map List.length).sum
def dom_Fronts.f (a0_0 : ByteArray) (l0_1 : List ByteArray) (a0_2 : ByteArray) (l0_3 : List ByteArray) (l0_4 : List (S58)) (l0_5 : List (S40)) (l1 : List Int) : Option (List Int) :=
 (dom_Front.f a0_0 l0_1 a0_2 l0_3 l0_4 l0_5).bind fun front => if l1.length ≤ 1000000 then (loopF front (l1.length + sumL front + 1) ([], [], l1)).bind fun out => if out.length ≤ 1000000 then some (out.mergeSort fun x y => decide (x ≤ y)) else none else none
theorem zeroB (w : World) : (zeroValue 4).run Try.prog w = .ok (.bool false) w := by kernel_rfl
theorem wf_int {x : Int} (h0 : 0 ≤ x) (h1 : x < 1000000) : (Lit.int .i64 x).wf = true := WalkArith.wf_i64 (by omega)
def lk (l : List Int) : List Lit := l.map (fun x => Lit.int .i64 x)
theorem lk_has (x : Int) (l : List Int) : decB (Lit.int .i64 x ∈ lk l) = decide (x ∈ l) := by
 unfold lk
 by_cases h : x ∈ l
 ·rw [decB_true (List.mem_map.mpr ⟨x, h, rfl⟩), decide_eq_true h]
 ·rw [decB_false (fun q => by obtain ⟨y, hy, e⟩ := List.mem_map.mp q; injection e with _ e; exact h (e ▸ hy)), decide_eq_false h]
/-- What a walk holds: what is found, what is to do, what was seen. -/
structure Wf (w W : World) (vo vt : Value) (bm : Nat) (out todo seen : List Int) : Prop where
 low : Below w.heap.size w W
 out : (Kd.int .i64).R 3 W w.heap.size (fun _ => True) vo out
 todo : (Kd.int .i64).R 3 W w.heap.size (fun _ => True) vt todo
 ne : ∀ k, vo.ownBlock = some k → some k ≠ vt.ownBlock
 seen : SetAt W Try.prog 3 4 bm (lk seen)
 bm : w.heap.size ≤ bm
theorem Wf.below {w W W1 : World} {vo vt : Value} {bm : Nat} {out todo seen : List Int} (h : Wf w W vo vt bm out todo seen) (hb : Below W.heap.size W W1) : Wf w W1 vo vt bm out todo seen :=
 ⟨below_step h.low hb, Kd.R_below h.out hb, Kd.R_below h.todo hb, h.ne, h.seen.below hb, h.bm⟩
set_option maxRecDepth 100000 in
set_option maxHeartbeats 4000000 in
theorem dom_Fronts.calls (a0_0 : ByteArray) (A0_1 : Option Addr) (c0_1 : Nat) (l0_1 : List ByteArray) (a0_2 : ByteArray) (A0_3 : Option Addr) (c0_3 : Nat) (l0_3 : List ByteArray) (A0_4 : Option Addr) (c0_4 : Nat) (l0_4 : List (S58)) (A0_5 : Option Addr) (c0_5 : Nat) (l0_5 : List (S40)) (A1 : Option Addr) (c1 : Nat) (l1 : List Int) (r : List Int) (w : World) (hr0_1 : Kd.C Kd.string w A0_1 l0_1.length l0_1) (hc0_1 : l0_1.length ≤ c0_1) (hr0_3 : Kd.C Kd.string w A0_3 l0_3.length l0_3) (hc0_3 : l0_3.length ≤ c0_3) (hr0_4 : Kd.C k58 w A0_4 l0_4.length l0_4) (hc0_4 : l0_4.length ≤ c0_4) (hr0_5 : Kd.C k40 w A0_5 l0_5.length l0_5) (hc0_5 : l0_5.length ≤ c0_5) (hr1 : Kd.C (Kd.int .i64) w A1 l1.length l1) (hc1 : l1.length ≤ c1) (h : dom_Fronts.f a0_0 l0_1 a0_2 l0_3 l0_4 l0_5 l1 = some r) :
  Calls Try.prog 47 #[.agg #[.string a0_0, .slice A0_1 l0_1.length c0_1, .string a0_2, .slice A0_3 l0_3.length c0_3, .slice A0_4 l0_4.length c0_4, .slice A0_5 l0_5.length c0_5], .slice A1 l1.length c1] w fun e w' => ∃ v0_ : Value, e = .returned (v0_) ∧ Kd.R (Kd.int .i64) 3 w' w.heap.size (fun _ => True) v0_ r ∧ Below w.heap.size w w' := by
 unfold dom_Fronts.f at h
 obtain ⟨front, hf, h⟩ := Option.bind_eq_some_iff.mp h
 split at h
 case isFalse => cases h
 rename_i hl1
 obtain ⟨out, hlo, h⟩ := Option.bind_eq_some_iff.mp h
 split at h
 case isFalse => cases h
 rename_i hol
 obtain rfl := Option.some.inj h
 clear h
 have HFR := Aside0.mk hf; have HLO := Aside0.mk hlo; have HOL := Aside0.mk hol; have HL1 := Aside0.mk hl1
 clear hf hlo hol hl1
 have hb0 := below_alloc (Below.refl w.heap.size w) (.cells #[.string a0_0, .slice A0_1 l0_1.length c0_1, .string a0_2, .slice A0_3 l0_3.length c0_3, .slice A0_4 l0_4.length c0_4, .slice A0_5 l0_5.length c0_5] 26)
 have HB0 := Aside0.mk hb0; clear hb0
 have hmm := @run_makeMap Try.prog
 go_enter Try.func47, Try.ntmps47
 go_wp2_with fail
 refine (dom_Front.calls a0_0 A0_1 c0_1 l0_1 a0_2 A0_3 c0_3 l0_3 A0_4 c0_4 l0_4 A0_5 c0_5 l0_5 front _ (Kd.C_below hr0_1 HB0.out) hc0_1 (Kd.C_below hr0_3 HB0.out) hc0_3 (Kd.C_below hr0_4 HB0.out) hc0_4 (Kd.C_below hr0_5 HB0.out) hc0_5 HFR.out).mono ?_
 rintro e W1 ⟨vf, rfl, hS, hb1⟩
 obtain ⟨Af, cf, rfl, hfl, hfC⟩ := Kd.S_reads hS
 have HFC := Aside0.mk hfC
 have HB1 := Aside0.mk (below_step HB0.out hb1)
 have HMX := Aside0.mk (Kd.C_max hfC)
 clear hS hfC hb1 hfl
 go_wp2_with fail
 have HBM := Aside0.mk (below_alloc (Below.refl W1.heap.size W1) (.map #[] 0))
 have HS0 : Aside0 (SetAt (W1.alloc (.map #[] 0)) Try.prog 3 4 W1.heap.size (lk [])) := ⟨SetAt.made _ _ _ _⟩
 refine (clone_calls A1 c1 l1 _ (Kd.C_below (Kd.C_below hr1 HB1.out) HBM.out) hc1 HL1.out).mono ?_
 rintro e W2 ⟨vt, rfl, hT, hb2⟩
 have hle : w.heap.size ≤ W1.heap.size := HB1.out.size
 have hle2 := HBM.out.size
 have hWF : Wf W1 W2 (.slice none 0 0) vt W1.heap.size [] l1 [] := ⟨below_step HBM.out hb2, Kd.R_nil _ _ _ _ _, Kd.R_lower hT hle2, fun k hk => by simp [Value.ownBlock] at hk, HS0.out.below hb2, Nat.le_refl _⟩
 have HWF := Aside0.mk hWF
 clear hWF hT hb2 hle hle2 HBM HS0
 clear hmm
 have hu34 := Try.underlying34
 go_wp2
 go_loopg [7, 8] (l1.length + sumL front + 1) (fun kq v7 v8 wr => ∃ (seen todo o : List Int), Aside0 (loopF front kq (seen, o, todo) = some out) ∧ Aside0 (kq ≤ l1.length + sumL front + 1) ∧ Aside0 (Wf W1 wr v8 v7 W1.heap.size o todo seen))
 case atStart => exact ⟨[], l1, [], HLO, ⟨Nat.le_refl _⟩, HWF⟩
 case round =>
  clear HLO HWF
  obtain ⟨seen, todo, o, HLO, HK, HW⟩ := hrel
  cases gk with
  | zero => exact absurd HLO.out (by simp [loopF])
  | succ k1 =>
   have hf := HLO.out
   clear HLO
   rw [loopF] at hf
   simp only at hf
   obtain ⟨At, ct, rfl⟩ := Kd.R_slice HW.out.todo
   have htC := (Kd.R_reads' HW.out.todo).2.2
   have htc := (Kd.R_reads' HW.out.todo).2.1
   have htm := Kd.C_max htC
   by_cases hz : todo.length = 0
   ·rw [if_pos hz] at hf
    have e := Option.some.inj hf
    clear hf
    subst e
    have hd : decide (0 < (todo.length : Int)) = false := decide_eq_false (by omega)
    have hdn : decide (0 < todo.length) = false := decide_eq_false (by omega)
    have HZ := Aside0.mk hz; clear hz htc htm htC
    go_wp2_with fail
    refine (sort_R HW.out.out (by have := HOL.out; omega)).mono ?_
    rintro e w3 ⟨rfl, hR3, hg3⟩
    have HR3 := Aside0.mk hR3
    have HB3 := Aside0.mk (Below.grown HW.out.low hg3 HW.out.low.size (fun k hk => Kd.R_base HW.out.out k hk))
    clear hR3 hg3
    go_wp2
    go_ret
    exact ⟨_, rfl, Kd.R_lower HR3.out HB1.out.size, below_step HB1.out HB3.out⟩
   ·rw [if_neg hz] at hf
    obtain ⟨b, hb⟩ : ∃ b, b = rd todo ((todo.length - 1 : Nat) : Int) := ⟨_, rfl⟩
    rw [← hb] at hf
    obtain ⟨adt, et, hx⟩ := Kd.at_int htC ((todo.length - 1 : Nat) : Int) (by omega) (by omega)
    cases et
    rw [← hb, Int.toNat_natCast] at hx
    have hi : IntKind.i64.wrap ((todo.length : Int) - 1) = ((todo.length - 1 : Nat) : Int) := by
     rw [i64_w]; unfold wrap64; omega
    have hi2 : wrap64 ((todo.length : Int) - 1) = ((todo.length - 1 : Nat) : Int) := by unfold wrap64; omega
    have hd : decide (0 < (todo.length : Int)) = true := decide_eq_true (by omega)
    have hdn : 0 < todo.length := by omega
    obtain ⟨hcut, hR4⟩ := cut_stack (P := Try.prog) (t := 34) (e := 3) Try.underlying34 (by kernel_rfl) HW.out.todo rfl htc hdn
    have hcut2 : ∀ W : World, (Instr.slice 34 (.slice (some adt) todo.length ct) none (some (.int .i64 ((todo.length - 1 : Nat) : Int))) none).run Try.prog W = .ok (.slice (some adt) (todo.length - 1) ct) W := fun W => by
     have := hcut W
     rwa [show ((todo.length : Int) - 1) = ((todo.length - 1 : Nat) : Int) by omega] at this
    have HF := Aside0.mk hf; clear hf hb htC hcut
    have hln : (todo.take (todo.length - 1)).length = todo.length - 1 := by rw [List.length_take]; omega
    have HLN := Aside0.mk hln; clear hln
    obtain ⟨t2, ht2⟩ : ∃ t2, t2 = todo.take (todo.length - 1) := ⟨_, rfl⟩
    rw [← ht2] at HF hR4 HLN
    have HW2 : Aside0 (Wf W1 wr u8 (.slice (some adt) (todo.length - 1) ct) W1.heap.size o t2 seen) := ⟨⟨HW.out.low, HW.out.out, hR4, HW.out.ne, HW.out.seen, HW.out.bm⟩⟩
    clear hR4 ht2 HW
    by_cases hbad : b < 0 ∨ (front.length : Int) ≤ b
    ·have hf := HF.out
     clear HF
     rw [if_pos hbad] at hf
     have HF := Aside0.mk hf; clear hf
     by_cases hb0 : b < 0
     ·have hd1 : decide (b < 0) = true := decide_eq_true hb0
      clear hbad
      go_wp2
      go_roundg k1
      case measure => have := HK.out; omega
      case rel => exact ⟨seen, t2, o, HF, ⟨by have := HK.out; omega⟩, HW2⟩
     ·have hd1 : decide (b < 0) = false := decide_eq_false hb0
      have hd2 : decide ((front.length : Int) ≤ b) = true := decide_eq_true (by omega)
      clear hbad
      go_wp2
      go_roundg k1
      case measure => have := HK.out; omega
      case rel => exact ⟨seen, t2, o, HF, ⟨by have := HK.out; omega⟩, HW2⟩
    ·have hf := HF.out
     clear HF
     rw [if_neg hbad] at hf
     obtain ⟨s2, hs2, hf2⟩ := Option.bind_eq_some_iff.mp hf
     have HS2 := Aside0.mk hs2; have HF2 := Aside0.mk hf2; clear hf hs2 hf2
     have hb0 : 0 ≤ b := by omega
     have hb1 : b < (front.length : Int) := by omega
     have hd1 : decide (b < 0) = false := decide_eq_false (by omega)
     have hd2 : decide ((front.length : Int) ≤ b) = false := decide_eq_false (by omega)
     clear hbad
     obtain ⟨adr, Ai, ci, er, hrow, hrl, hrC⟩ := row_at HFC.out b hb0 hb1
     cases er
     replace hrow := pw_cell_below HW2.out.low hrow
     have HRC := Aside0.mk hrC; clear hrC
     go_wp2
     clear hrow hx hcut2 hd hdn
     go_loopg [7, 8, 44] (rowOf front b).length (fun kq v7 v8 v44 wr2 => ∃ (j : Nat) (s3 o3 t3 : List Int), v44 = .int .i64 j ∧ j + kq = (rowOf front b).length ∧ Aside0 (((rowOf front b).drop j).foldlM stepX (s3, o3, t3) = some s2) ∧ Aside0 (Wf W1 wr2 v8 v7 W1.heap.size o3 t3 s3))
     case atStart => exact ⟨0, seen, o, t2, rfl, Nat.zero_add _, HS2, HW2⟩
     case round =>
      clear HS2 HW2
      obtain ⟨j, s3, o3, t3, rfl, hjk, HS2, HW⟩ := hrel
      have hrm := Kd.C_max HRC.out
      by_cases hj : j < (rowOf front b).length
      ·obtain ⟨k2, rfl⟩ : ∃ k2, gk = k2 + 1 := ⟨gk - 1, by omega⟩
       obtain ⟨adp, ep, hp⟩ := Kd.at_int (Kd.C_below HRC.out HW.out.low) (j : Int) (by omega) (by omega)
       cases ep
       obtain ⟨x, ep⟩ : ∃ x, x = rd (rowOf front b) (j : Int) := ⟨_, rfl⟩
       rw [← ep, Int.toNat_natCast] at hp
       have hd : (rowOf front b).drop j = x :: (rowOf front b).drop (j + 1) := by
        rw [ep]; unfold rd
        rw [Int.toNat_natCast, getD_at _ _ hj, List.drop_eq_getElem_cons hj]
       have hf := HS2.out
       clear HS2
       rw [hd, List.foldlM_cons] at hf
       obtain ⟨s4, hs, hf2⟩ := Option.bind_eq_some_iff.mp hf
       have HF3 := Aside0.mk hf2
       clear hf hf2 hd ep
       unfold stepX at hs
       split at hs
       case isFalse => cases hs
       rename_i hxc
       obtain ⟨hx0, hx1, hx2, hx3, hx4⟩ := hxc
       simp only at hx2 hx3 hx4
       have e := Option.some.inj hs
       clear hs
       have HX2 := Aside0.mk hx2; have HX3 := Aside0.mk hx3; have HX4 := Aside0.mk hx4
       clear hx2 hx3 hx4
       have hwx : (Lit.int .i64 x).wf = true := wf_int hx0 hx1
       have hkey : keyOf Try.prog 3 (.int .i64 x) = some (Lit.int .i64 x) := Go.Maps.keyOf_int_mk Try.underlying3 hwx
       have hlk : (Instr.lookup 77 (.map (some W1.heap.size)) (.int .i64 x) false).run Try.prog wr = .ok (.bool (decide (x ∈ s3))) wr := by
        rw [← lk_has]
        exact SetAt.lookup HW.out.seen (Go.Maps.int_keyed Try.underlying3) Try.underlying77 Try.underlying4 (zeroB wr) hkey trivial
       have HKEY := Aside0.mk hkey; clear hkey hwx
       by_cases hm : x ∈ s3
       ·rw [decide_eq_true hm] at hlk
        rw [if_pos hm] at e
        subst e
        clear hm
        go_wp2
        go_roundg k2
        case measure => omega
        case rel => exact ⟨j + 1, s3, o3, t3, by go_num, by omega, HF3, HW⟩
       ·rw [decide_eq_false hm] at hlk
        rw [if_neg hm] at e
        subst e
        clear hm
        go_wp2_with (at_mapUpdate; refine SetAt.update_op HW.out.seen rfl (.tmp 52) (.tmp 53) (.const (.bool true)) rfl (Go.Maps.int_keyed Try.underlying3) Try.underlying77 Try.underlying4 rfl ?hn (.int .i64 x) (Lit.int .i64 x) rfl rfl HKEY.out trivial ?_)
        case hn => have := HX2.out; unfold lk; rw [List.length_map]; unfold maxLen; omega
        intro w4 hs4 hg4
        have q1 := SetAt.ne_own HW.out.seen (Kd.Q_of_R HW.out.out)
        have q2 := SetAt.ne_own HW.out.seen (Kd.Q_of_R HW.out.todo)
        have hW4 : Wf W1 w4 u8 u7 W1.heap.size o3 t3 (x :: s3) := ⟨Below.grown HW.out.low hg4 HW.out.low.size (fun k hk => by injection hk with hk; omega), Kd.R_grown2 HW.out.out rfl hg4 (fun k e => e ▸ q1), Kd.R_grown2 HW.out.todo rfl hg4 (fun k e => e ▸ q2), HW.out.ne, hs4, HW.out.bm⟩
        have HW4 := Aside0.mk hW4
        clear hs4 hg4 hlk HW HKEY hW4 q1 q2 hp
        go_wp2_with (first | ((with_reducible refine gate_builtin (b := .append) (xs := #[.tmp 54, .tmp 56]) rfl ?_); at_builtin; refine Kd.R_append (Kd.int .i64) (w0 := W1) W1.heap.size rfl (.tmp 54) (.tmp 56) 34 3 (.int .i64 0) 8 rfl Try.underlying34 info3 rfl (by decide) (by omega) u8 o3 x [.int .i64 x] (fun k_ => some k_ ≠ u7.ownBlock) (fun _ => False) rfl rfl ?aP (fun _ hk => hk.elim) ?aF ?aO ?aB ?aS ?aL ?_; (case aP => exact rfl); (case aF => exact fun k hk e_ => by have := Kd.R_lt HW4.out.todo k e_.symm; omega); (case aO => exact Kd.R_of_own (Kd.own_of_R HW4.out.out) (fun k hk => HW4.out.ne k hk)); (case aB => exact HW4.out.low); (case aS => exact HW4.out.low.size); (case aL => have := HX3.out; omega); intro v1 w5 ho hb hg hat; have HO5 := Aside0.mk ho; have HT5 := Aside0.mk (Kd.R_grown2 HW4.out.todo rfl hg (fun k e_ => HW4.out.ne k e_)); have HS5 := Aside0.mk (SetAt.kept HW4.out.seen hg (SetAt.ne_own HW4.out.seen (Kd.Q_of_R HW4.out.out))); have HB5 := Aside0.mk hb; clear ho hb hg hat) | ((with_reducible refine gate_builtin (b := .append) (xs := #[.tmp 58, .tmp 60]) rfl ?_); at_builtin; refine Kd.R_append (Kd.int .i64) (w0 := W1) W1.heap.size rfl (.tmp 58) (.tmp 60) 34 3 (.int .i64 0) 8 rfl Try.underlying34 info3 rfl (by decide) (by omega) u7 t3 x [.int .i64 x] (fun k_ => some k_ ≠ v1.ownBlock) (fun _ => False) rfl rfl ?aP (fun _ hk => hk.elim) ?aF ?aO ?aB ?aS ?aL ?_; (case aP => exact rfl); (case aF => exact fun k hk e_ => by have := Kd.R_lt HO5.out k e_.symm; omega); (case aO => exact Kd.R_of_own (Kd.own_of_R HT5.out) (fun k hk e_ => HO5.out.1 k e_.symm hk.symm)); (case aB => exact HB5.out); (case aS => exact HB5.out.size); (case aL => have := HX4.out; omega); intro v2 w6 ho hb hg hat; have HW6 : Aside0 (Wf W1 w6 v1 v2 W1.heap.size (o3 ++ [x]) (t3 ++ [x]) (x :: s3)) := ⟨⟨hb, Kd.R_mono (Kd.R_grown2 HO5.out rfl hg (fun k e_ e2_ => HO5.out.1 k e2_.symm e_.symm)) (fun _ _ => trivial), Kd.R_mono ho (fun _ _ => trivial), fun k hk e_ => ho.1 k e_.symm hk.symm, SetAt.kept HS5.out hg (SetAt.ne_own HS5.out (Kd.Q_of_R HT5.out)), HW4.out.bm⟩⟩; clear ho hb hg hat))
        go_roundg k2
        case measure => omega
        case rel => exact ⟨j + 1, x :: s3, o3 ++ [x], t3 ++ [x], by go_num, by omega, HF3, HW6⟩
      ·have hf := HS2.out
       rw [List.drop_eq_nil_of_le (by omega)] at hf
       have e := Option.some.inj hf
       clear hf HS2
       subst e
       go_wp2
       go_roundg k1
       case measure => have := HK.out; omega
       case rel => exact ⟨s3, t3, o3, HF2, ⟨by have := HK.out; omega⟩, HW⟩
end Go.Proofs.Ytclhjalgflebfaa.Q

namespace Go.Proofs.Ytclhjalgflebfaa.Q
open Go.RowKit Go.Proofs.YtclhjalgflebfaaW.PrintWords Go.Proofs.YtclhjalgflebfaaW.PrintLast Go.Proofs.YtclhjalgflebfaaW.PrintMore
attribute [local go_sem] max2_int min2_int max_two min_two max_three min_three max_four min_four   -- for this text's walks alone
set_option linter.unusedVariables false
set_option linter.unusedSimpArgs false

/-! ### truantlaw10_awake: function 38 -/
def truantlaw10_awake.f (k : Nat)  : Option (Bool) := (truantlaw10_four.f).bind fun bt286 => ((dom_Nearest.f bt286.1 bt286.2.1 bt286.2.2.1 bt286.2.2.2.1 bt286.2.2.2.2.1 bt286.2.2.2.2.2).bind fun t301 => ((dom_Front.f bt286.1 bt286.2.1 bt286.2.2.1 bt286.2.2.2.1 bt286.2.2.2.2.1 bt286.2.2.2.2.2).bind fun t304 => ((dom_Under.f k bt286.1 bt286.2.1 bt286.2.2.1 bt286.2.2.2.1 bt286.2.2.2.2.1 bt286.2.2.2.2.2).bind fun t307 => ((dom_Fronts.f bt286.1 bt286.2.1 bt286.2.2.1 bt286.2.2.2.1 bt286.2.2.2.2.1 bt286.2.2.2.2.2 (([1] : List Int))).bind fun t313 => (if (t301.length : Int) = 4 then (if 0 < (t301.length : Int) then (if (rd t301 0) = (-1) then (if 3 < (t301.length : Int) then (if (rd t301 3) = 0 then (if (t304.length : Int) = 4 then (if 1 < (t304.length : Int) then (if ((rd_L2 t304 1).length : Int) = 1 then (if 0 < ((rd_L2 t304 1).length : Int) then (if (rd (rd_L2 t304 1) 0) = 3 then (if 0 < (t304.length : Int) then (if ((rd_L2 t304 0).length : Int) = 0 then (if (t307.length : Int) = 4 then (if 0 < (t307.length : Int) then (if ((rd_L2 t307 0).length : Int) = 3 then (if (t313.length : Int) = 1 then (if 0 < (t313.length : Int) then (if (rd t313 0) = 3 then ((dom_Is.f bt286.1 bt286.2.1 bt286.2.2.1 bt286.2.2.2.1 bt286.2.2.2.2.1 bt286.2.2.2.2.2 0 3).bind fun t324 => (if t324 = true then ((dom_Is.f bt286.1 bt286.2.1 bt286.2.2.1 bt286.2.2.2.1 bt286.2.2.2.2.1 bt286.2.2.2.2.2 1 3).bind fun t325 => (if t325 = true then (none) else ((dom_Is.f bt286.1 bt286.2.1 bt286.2.2.1 bt286.2.2.2.1 bt286.2.2.2.2.1 bt286.2.2.2.2.2 2 2).bind fun t326 => (if t326 = true then ((dom_Is.f bt286.1 bt286.2.1 bt286.2.2.1 bt286.2.2.2.1 bt286.2.2.2.2.1 bt286.2.2.2.2.2 4 4).bind fun t327 => (some (!t327))) else (none))))) else (none))) else (none)) else (none)) else (none)) else (none)) else (none)) else (none)) else (none)) else (none)) else (none)) else (none)) else (none)) else (none)) else (none)) else (none)) else (none)) else (none)) else (none)) else (none))))))
theorem truantlaw10_awake.mono : ∀ k, LeO (truantlaw10_awake.f k ) (truantlaw10_awake.f (k + 1) ) := by
 intro  k
 unfold truantlaw10_awake.f
 repeat' first
   | (with_reducible exact dom_Under.mono _ _ _ _ _ _ _)
   | (with_reducible exact LeO.refl _)
   | (with_reducible exact LeO.none _)
   | (with_reducible refine LeO.ite ?_ ?_)
   | (with_reducible refine LeO.bind ?_ (fun _ => ?_))
   | exact dom_Under.mono _ _ _ _ _ _ _
   | exact LeO.none _
   | refine LeO.ite ?_ ?_
   | refine LeO.bind ?_ (fun _ => ?_)
set_option maxHeartbeats 8000000 in
set_option maxRecDepth 100000 in
theorem truantlaw10_awake.calls (k : Nat)  (r : Bool) (w : World) (h : truantlaw10_awake.f k  = some r) :
  Calls Try.prog 38 #[] w fun e w' => e = .returned (.bool r) ∧ Below w.heap.size w w' := by
 have hu26 := Try.underlying26
 have HB := Aside0.mk (Below.refl w.heap.size w)
 have H : ((truantlaw10_four.f).bind fun bt286 => ((dom_Nearest.f bt286.1 bt286.2.1 bt286.2.2.1 bt286.2.2.2.1 bt286.2.2.2.2.1 bt286.2.2.2.2.2).bind fun t301 => ((dom_Front.f bt286.1 bt286.2.1 bt286.2.2.1 bt286.2.2.2.1 bt286.2.2.2.2.1 bt286.2.2.2.2.2).bind fun t304 => ((dom_Under.f k bt286.1 bt286.2.1 bt286.2.2.1 bt286.2.2.2.1 bt286.2.2.2.2.1 bt286.2.2.2.2.2).bind fun t307 => ((dom_Fronts.f bt286.1 bt286.2.1 bt286.2.2.1 bt286.2.2.2.1 bt286.2.2.2.2.1 bt286.2.2.2.2.2 (([1] : List Int))).bind fun t313 => (if (t301.length : Int) = 4 then (if 0 < (t301.length : Int) then (if (rd t301 0) = (-1) then (if 3 < (t301.length : Int) then (if (rd t301 3) = 0 then (if (t304.length : Int) = 4 then (if 1 < (t304.length : Int) then (if ((rd_L2 t304 1).length : Int) = 1 then (if 0 < ((rd_L2 t304 1).length : Int) then (if (rd (rd_L2 t304 1) 0) = 3 then (if 0 < (t304.length : Int) then (if ((rd_L2 t304 0).length : Int) = 0 then (if (t307.length : Int) = 4 then (if 0 < (t307.length : Int) then (if ((rd_L2 t307 0).length : Int) = 3 then (if (t313.length : Int) = 1 then (if 0 < (t313.length : Int) then (if (rd t313 0) = 3 then ((dom_Is.f bt286.1 bt286.2.1 bt286.2.2.1 bt286.2.2.2.1 bt286.2.2.2.2.1 bt286.2.2.2.2.2 0 3).bind fun t324 => (if t324 = true then ((dom_Is.f bt286.1 bt286.2.1 bt286.2.2.1 bt286.2.2.2.1 bt286.2.2.2.2.1 bt286.2.2.2.2.2 1 3).bind fun t325 => (if t325 = true then (none) else ((dom_Is.f bt286.1 bt286.2.1 bt286.2.2.1 bt286.2.2.2.1 bt286.2.2.2.2.1 bt286.2.2.2.2.2 2 2).bind fun t326 => (if t326 = true then ((dom_Is.f bt286.1 bt286.2.1 bt286.2.2.1 bt286.2.2.2.1 bt286.2.2.2.2.1 bt286.2.2.2.2.2 4 4).bind fun t327 => (some (!t327))) else (none))))) else (none))) else (none)) else (none)) else (none)) else (none)) else (none)) else (none)) else (none)) else (none)) else (none)) else (none)) else (none)) else (none)) else (none)) else (none)) else (none)) else (none)) else (none)) else (none))))))) = some r := h
 clear h
 replace H := Option.bind_eq_some_iff.mp H
 obtain ⟨⟨t286, t287, t290, t291, t294, t297⟩, A10, H⟩ := H
 replace H : ((dom_Nearest.f t286 t287 t290 t291 t294 t297).bind fun t301 => ((dom_Front.f t286 t287 t290 t291 t294 t297).bind fun t304 => ((dom_Under.f k t286 t287 t290 t291 t294 t297).bind fun t307 => ((dom_Fronts.f t286 t287 t290 t291 t294 t297 (([1] : List Int))).bind fun t313 => (if (t301.length : Int) = 4 then (if 0 < (t301.length : Int) then (if (rd t301 0) = (-1) then (if 3 < (t301.length : Int) then (if (rd t301 3) = 0 then (if (t304.length : Int) = 4 then (if 1 < (t304.length : Int) then (if ((rd_L2 t304 1).length : Int) = 1 then (if 0 < ((rd_L2 t304 1).length : Int) then (if (rd (rd_L2 t304 1) 0) = 3 then (if 0 < (t304.length : Int) then (if ((rd_L2 t304 0).length : Int) = 0 then (if (t307.length : Int) = 4 then (if 0 < (t307.length : Int) then (if ((rd_L2 t307 0).length : Int) = 3 then (if (t313.length : Int) = 1 then (if 0 < (t313.length : Int) then (if (rd t313 0) = 3 then ((dom_Is.f t286 t287 t290 t291 t294 t297 0 3).bind fun t324 => (if t324 = true then ((dom_Is.f t286 t287 t290 t291 t294 t297 1 3).bind fun t325 => (if t325 = true then (none) else ((dom_Is.f t286 t287 t290 t291 t294 t297 2 2).bind fun t326 => (if t326 = true then ((dom_Is.f t286 t287 t290 t291 t294 t297 4 4).bind fun t327 => (some (!t327))) else (none))))) else (none))) else (none)) else (none)) else (none)) else (none)) else (none)) else (none)) else (none)) else (none)) else (none)) else (none)) else (none)) else (none)) else (none)) else (none)) else (none)) else (none)) else (none)) else (none)))))) = some r := H
 have A1 := Aside0.mk A10
 clear A10
 replace H := Option.bind_eq_some_iff.mp H
 obtain ⟨t301, A20, H⟩ := H
 replace H : ((dom_Front.f t286 t287 t290 t291 t294 t297).bind fun t304 => ((dom_Under.f k t286 t287 t290 t291 t294 t297).bind fun t307 => ((dom_Fronts.f t286 t287 t290 t291 t294 t297 (([1] : List Int))).bind fun t313 => (if (t301.length : Int) = 4 then (if 0 < (t301.length : Int) then (if (rd t301 0) = (-1) then (if 3 < (t301.length : Int) then (if (rd t301 3) = 0 then (if (t304.length : Int) = 4 then (if 1 < (t304.length : Int) then (if ((rd_L2 t304 1).length : Int) = 1 then (if 0 < ((rd_L2 t304 1).length : Int) then (if (rd (rd_L2 t304 1) 0) = 3 then (if 0 < (t304.length : Int) then (if ((rd_L2 t304 0).length : Int) = 0 then (if (t307.length : Int) = 4 then (if 0 < (t307.length : Int) then (if ((rd_L2 t307 0).length : Int) = 3 then (if (t313.length : Int) = 1 then (if 0 < (t313.length : Int) then (if (rd t313 0) = 3 then ((dom_Is.f t286 t287 t290 t291 t294 t297 0 3).bind fun t324 => (if t324 = true then ((dom_Is.f t286 t287 t290 t291 t294 t297 1 3).bind fun t325 => (if t325 = true then (none) else ((dom_Is.f t286 t287 t290 t291 t294 t297 2 2).bind fun t326 => (if t326 = true then ((dom_Is.f t286 t287 t290 t291 t294 t297 4 4).bind fun t327 => (some (!t327))) else (none))))) else (none))) else (none)) else (none)) else (none)) else (none)) else (none)) else (none)) else (none)) else (none)) else (none)) else (none)) else (none)) else (none)) else (none)) else (none)) else (none)) else (none)) else (none)) else (none))))) = some r := H
 have A2 := Aside0.mk A20
 clear A20
 replace H := Option.bind_eq_some_iff.mp H
 obtain ⟨t304, A30, H⟩ := H
 replace H : ((dom_Under.f k t286 t287 t290 t291 t294 t297).bind fun t307 => ((dom_Fronts.f t286 t287 t290 t291 t294 t297 (([1] : List Int))).bind fun t313 => (if (t301.length : Int) = 4 then (if 0 < (t301.length : Int) then (if (rd t301 0) = (-1) then (if 3 < (t301.length : Int) then (if (rd t301 3) = 0 then (if (t304.length : Int) = 4 then (if 1 < (t304.length : Int) then (if ((rd_L2 t304 1).length : Int) = 1 then (if 0 < ((rd_L2 t304 1).length : Int) then (if (rd (rd_L2 t304 1) 0) = 3 then (if 0 < (t304.length : Int) then (if ((rd_L2 t304 0).length : Int) = 0 then (if (t307.length : Int) = 4 then (if 0 < (t307.length : Int) then (if ((rd_L2 t307 0).length : Int) = 3 then (if (t313.length : Int) = 1 then (if 0 < (t313.length : Int) then (if (rd t313 0) = 3 then ((dom_Is.f t286 t287 t290 t291 t294 t297 0 3).bind fun t324 => (if t324 = true then ((dom_Is.f t286 t287 t290 t291 t294 t297 1 3).bind fun t325 => (if t325 = true then (none) else ((dom_Is.f t286 t287 t290 t291 t294 t297 2 2).bind fun t326 => (if t326 = true then ((dom_Is.f t286 t287 t290 t291 t294 t297 4 4).bind fun t327 => (some (!t327))) else (none))))) else (none))) else (none)) else (none)) else (none)) else (none)) else (none)) else (none)) else (none)) else (none)) else (none)) else (none)) else (none)) else (none)) else (none)) else (none)) else (none)) else (none)) else (none)) else (none)))) = some r := H
 have A3 := Aside0.mk A30
 clear A30
 replace H := Option.bind_eq_some_iff.mp H
 obtain ⟨t307, A40, H⟩ := H
 replace H : ((dom_Fronts.f t286 t287 t290 t291 t294 t297 (([1] : List Int))).bind fun t313 => (if (t301.length : Int) = 4 then (if 0 < (t301.length : Int) then (if (rd t301 0) = (-1) then (if 3 < (t301.length : Int) then (if (rd t301 3) = 0 then (if (t304.length : Int) = 4 then (if 1 < (t304.length : Int) then (if ((rd_L2 t304 1).length : Int) = 1 then (if 0 < ((rd_L2 t304 1).length : Int) then (if (rd (rd_L2 t304 1) 0) = 3 then (if 0 < (t304.length : Int) then (if ((rd_L2 t304 0).length : Int) = 0 then (if (t307.length : Int) = 4 then (if 0 < (t307.length : Int) then (if ((rd_L2 t307 0).length : Int) = 3 then (if (t313.length : Int) = 1 then (if 0 < (t313.length : Int) then (if (rd t313 0) = 3 then ((dom_Is.f t286 t287 t290 t291 t294 t297 0 3).bind fun t324 => (if t324 = true then ((dom_Is.f t286 t287 t290 t291 t294 t297 1 3).bind fun t325 => (if t325 = true then (none) else ((dom_Is.f t286 t287 t290 t291 t294 t297 2 2).bind fun t326 => (if t326 = true then ((dom_Is.f t286 t287 t290 t291 t294 t297 4 4).bind fun t327 => (some (!t327))) else (none))))) else (none))) else (none)) else (none)) else (none)) else (none)) else (none)) else (none)) else (none)) else (none)) else (none)) else (none)) else (none)) else (none)) else (none)) else (none)) else (none)) else (none)) else (none)) else (none))) = some r := H
 have A4 := Aside0.mk A40
 clear A40
 obtain ⟨y310, hy310⟩ : ∃ y_ : List Int, y_ = (([1] : List Int)) := ⟨_, rfl⟩
 replace H : ((dom_Fronts.f t286 t287 t290 t291 t294 t297 y310).bind fun t313 => (if (t301.length : Int) = 4 then (if 0 < (t301.length : Int) then (if (rd t301 0) = (-1) then (if 3 < (t301.length : Int) then (if (rd t301 3) = 0 then (if (t304.length : Int) = 4 then (if 1 < (t304.length : Int) then (if ((rd_L2 t304 1).length : Int) = 1 then (if 0 < ((rd_L2 t304 1).length : Int) then (if (rd (rd_L2 t304 1) 0) = 3 then (if 0 < (t304.length : Int) then (if ((rd_L2 t304 0).length : Int) = 0 then (if (t307.length : Int) = 4 then (if 0 < (t307.length : Int) then (if ((rd_L2 t307 0).length : Int) = 3 then (if (t313.length : Int) = 1 then (if 0 < (t313.length : Int) then (if (rd t313 0) = 3 then ((dom_Is.f t286 t287 t290 t291 t294 t297 0 3).bind fun t324 => (if t324 = true then ((dom_Is.f t286 t287 t290 t291 t294 t297 1 3).bind fun t325 => (if t325 = true then (none) else ((dom_Is.f t286 t287 t290 t291 t294 t297 2 2).bind fun t326 => (if t326 = true then ((dom_Is.f t286 t287 t290 t291 t294 t297 4 4).bind fun t327 => (some (!t327))) else (none))))) else (none))) else (none)) else (none)) else (none)) else (none)) else (none)) else (none)) else (none)) else (none)) else (none)) else (none)) else (none)) else (none)) else (none)) else (none)) else (none)) else (none)) else (none)) else (none))) = some r := by first | (rw [hy310]; with_reducible exact H) | (have H2_ := (Option.bind_some _ _).symm.trans H; rw [hy310]; with_reducible exact H2_) | (have H2_ := (Option.bind_some _ _).symm.trans H; with_reducible exact H2_) | with_reducible exact H | (rw [hy310]; exact H) | exact H
 have Ny310 := Aside0.mk hy310
 clear hy310
 replace H := Option.bind_eq_some_iff.mp H
 obtain ⟨t313, A50, H⟩ := H
 replace H : (if (t301.length : Int) = 4 then (if 0 < (t301.length : Int) then (if (rd t301 0) = (-1) then (if 3 < (t301.length : Int) then (if (rd t301 3) = 0 then (if (t304.length : Int) = 4 then (if 1 < (t304.length : Int) then (if ((rd_L2 t304 1).length : Int) = 1 then (if 0 < ((rd_L2 t304 1).length : Int) then (if (rd (rd_L2 t304 1) 0) = 3 then (if 0 < (t304.length : Int) then (if ((rd_L2 t304 0).length : Int) = 0 then (if (t307.length : Int) = 4 then (if 0 < (t307.length : Int) then (if ((rd_L2 t307 0).length : Int) = 3 then (if (t313.length : Int) = 1 then (if 0 < (t313.length : Int) then (if (rd t313 0) = 3 then ((dom_Is.f t286 t287 t290 t291 t294 t297 0 3).bind fun t324 => (if t324 = true then ((dom_Is.f t286 t287 t290 t291 t294 t297 1 3).bind fun t325 => (if t325 = true then (none) else ((dom_Is.f t286 t287 t290 t291 t294 t297 2 2).bind fun t326 => (if t326 = true then ((dom_Is.f t286 t287 t290 t291 t294 t297 4 4).bind fun t327 => (some (!t327))) else (none))))) else (none))) else (none)) else (none)) else (none)) else (none)) else (none)) else (none)) else (none)) else (none)) else (none)) else (none)) else (none)) else (none)) else (none)) else (none)) else (none)) else (none)) else (none)) else (none)) = some r := H
 have A5 := Aside0.mk A50
 clear A50
 by_cases c6 : (t301.length : Int) = 4
 ·rw [if_pos c6] at H
  have c6b0 : ((t301.length : Int) == 4) = true := beq_iff_eq.mpr c6
  have c6b1 : ((t301.length : Int) != 4) = false := bne_eq_false_iff_eq.mpr c6
  clear c6
  by_cases c7 : 0 < (t301.length : Int)
  ·rw [if_pos c7] at H
   have c7b0 : decide (0 < (t301.length : Int)) = true := decide_eq_true c7
   have c7b1 : decide (0 < t301.length) = true := decide_eq_true (by omega)
   clear c7
   by_cases c8 : (rd t301 0) = (-1)
   ·rw [if_pos c8] at H
    have c8b0 : ((rd t301 0) == (-1)) = true := beq_iff_eq.mpr c8
    have c8b1 : ((rd t301 0) != (-1)) = false := bne_eq_false_iff_eq.mpr c8
    clear c8
    by_cases c9 : 3 < (t301.length : Int)
    ·rw [if_pos c9] at H
     have c9b0 : decide (3 < (t301.length : Int)) = true := decide_eq_true c9
     have c9b1 : decide (3 < t301.length) = true := decide_eq_true (by omega)
     clear c9
     by_cases c10 : (rd t301 3) = 0
     ·rw [if_pos c10] at H
      have c10b0 : ((rd t301 3) == 0) = true := beq_iff_eq.mpr c10
      have c10b1 : ((rd t301 3) != 0) = false := bne_eq_false_iff_eq.mpr c10
      clear c10
      by_cases c11 : (t304.length : Int) = 4
      ·rw [if_pos c11] at H
       have c11b0 : ((t304.length : Int) == 4) = true := beq_iff_eq.mpr c11
       have c11b1 : ((t304.length : Int) != 4) = false := bne_eq_false_iff_eq.mpr c11
       clear c11
       by_cases c12 : 1 < (t304.length : Int)
       ·rw [if_pos c12] at H
        have c12b0 : decide (1 < (t304.length : Int)) = true := decide_eq_true c12
        have c12b1 : decide (1 < t304.length) = true := decide_eq_true (by omega)
        clear c12
        by_cases c13 : ((rd_L2 t304 1).length : Int) = 1
        ·rw [if_pos c13] at H
         have c13b0 : (((rd_L2 t304 1).length : Int) == 1) = true := beq_iff_eq.mpr c13
         have c13b1 : (((rd_L2 t304 1).length : Int) != 1) = false := bne_eq_false_iff_eq.mpr c13
         clear c13
         by_cases c14 : 0 < ((rd_L2 t304 1).length : Int)
         ·rw [if_pos c14] at H
          have c14b0 : decide (0 < ((rd_L2 t304 1).length : Int)) = true := decide_eq_true c14
          have c14b1 : decide (0 < (rd_L2 t304 1).length) = true := decide_eq_true (by omega)
          clear c14
          by_cases c15 : (rd (rd_L2 t304 1) 0) = 3
          ·rw [if_pos c15] at H
           have c15b0 : ((rd (rd_L2 t304 1) 0) == 3) = true := beq_iff_eq.mpr c15
           have c15b1 : ((rd (rd_L2 t304 1) 0) != 3) = false := bne_eq_false_iff_eq.mpr c15
           clear c15
           by_cases c16 : 0 < (t304.length : Int)
           ·rw [if_pos c16] at H
            have c16b0 : decide (0 < (t304.length : Int)) = true := decide_eq_true c16
            have c16b1 : decide (0 < t304.length) = true := decide_eq_true (by omega)
            clear c16
            by_cases c17 : ((rd_L2 t304 0).length : Int) = 0
            ·rw [if_pos c17] at H
             have c17b0 : (((rd_L2 t304 0).length : Int) == 0) = true := beq_iff_eq.mpr c17
             have c17b1 : (((rd_L2 t304 0).length : Int) != 0) = false := bne_eq_false_iff_eq.mpr c17
             clear c17
             by_cases c18 : (t307.length : Int) = 4
             ·rw [if_pos c18] at H
              have c18b0 : ((t307.length : Int) == 4) = true := beq_iff_eq.mpr c18
              have c18b1 : ((t307.length : Int) != 4) = false := bne_eq_false_iff_eq.mpr c18
              clear c18
              by_cases c19 : 0 < (t307.length : Int)
              ·rw [if_pos c19] at H
               have c19b0 : decide (0 < (t307.length : Int)) = true := decide_eq_true c19
               have c19b1 : decide (0 < t307.length) = true := decide_eq_true (by omega)
               clear c19
               by_cases c20 : ((rd_L2 t307 0).length : Int) = 3
               ·rw [if_pos c20] at H
                have c20b0 : (((rd_L2 t307 0).length : Int) == 3) = true := beq_iff_eq.mpr c20
                have c20b1 : (((rd_L2 t307 0).length : Int) != 3) = false := bne_eq_false_iff_eq.mpr c20
                clear c20
                by_cases c21 : (t313.length : Int) = 1
                ·rw [if_pos c21] at H
                 have c21b0 : ((t313.length : Int) == 1) = true := beq_iff_eq.mpr c21
                 have c21b1 : ((t313.length : Int) != 1) = false := bne_eq_false_iff_eq.mpr c21
                 clear c21
                 by_cases c22 : 0 < (t313.length : Int)
                 ·rw [if_pos c22] at H
                  have c22b0 : decide (0 < (t313.length : Int)) = true := decide_eq_true c22
                  have c22b1 : decide (0 < t313.length) = true := decide_eq_true (by omega)
                  clear c22
                  by_cases c23 : (rd t313 0) = 3
                  ·rw [if_pos c23] at H
                   have c23b0 : ((rd t313 0) == 3) = true := beq_iff_eq.mpr c23
                   have c23b1 : ((rd t313 0) != 3) = false := bne_eq_false_iff_eq.mpr c23
                   clear c23
                   replace H := Option.bind_eq_some_iff.mp H
                   obtain ⟨t324, A240, H⟩ := H
                   replace H : (if t324 = true then ((dom_Is.f t286 t287 t290 t291 t294 t297 1 3).bind fun t325 => (if t325 = true then (none) else ((dom_Is.f t286 t287 t290 t291 t294 t297 2 2).bind fun t326 => (if t326 = true then ((dom_Is.f t286 t287 t290 t291 t294 t297 4 4).bind fun t327 => (some (!t327))) else (none))))) else (none)) = some r := H
                   have A24 := Aside0.mk A240
                   clear A240
                   by_cases c25 : t324 = true
                   ·subst c25
                    have H1 : ((dom_Is.f t286 t287 t290 t291 t294 t297 1 3).bind fun t325 => (if t325 = true then (none) else ((dom_Is.f t286 t287 t290 t291 t294 t297 2 2).bind fun t326 => (if t326 = true then ((dom_Is.f t286 t287 t290 t291 t294 t297 4 4).bind fun t327 => (some (!t327))) else (none))))) = some r := by rw [if_pos rfl] at H; exact H
                    clear H
                    have H := H1
                    clear H1
                    replace H := Option.bind_eq_some_iff.mp H
                    obtain ⟨t325, A260, H⟩ := H
                    replace H : (if t325 = true then (none) else ((dom_Is.f t286 t287 t290 t291 t294 t297 2 2).bind fun t326 => (if t326 = true then ((dom_Is.f t286 t287 t290 t291 t294 t297 4 4).bind fun t327 => (some (!t327))) else (none)))) = some r := H
                    have A26 := Aside0.mk A260
                    clear A260
                    by_cases c27 : t325 = true
                    ·subst c27
                     have H1 : (none) = some r := by rw [if_pos rfl] at H; exact H
                     clear H
                     have H := H1
                     clear H1
                     exact absurd H (by simp)
                    ·replace c27 := Bool.eq_false_iff.mpr c27
                     subst c27
                     have H1 : ((dom_Is.f t286 t287 t290 t291 t294 t297 2 2).bind fun t326 => (if t326 = true then ((dom_Is.f t286 t287 t290 t291 t294 t297 4 4).bind fun t327 => (some (!t327))) else (none))) = some r := by rw [if_neg (show ¬ (false = true) by decide)] at H; exact H
                     clear H
                     have H := H1
                     clear H1
                     replace H := Option.bind_eq_some_iff.mp H
                     obtain ⟨t326, A280, H⟩ := H
                     replace H : (if t326 = true then ((dom_Is.f t286 t287 t290 t291 t294 t297 4 4).bind fun t327 => (some (!t327))) else (none)) = some r := H
                     have A28 := Aside0.mk A280
                     clear A280
                     by_cases c29 : t326 = true
                     ·subst c29
                      have H1 : ((dom_Is.f t286 t287 t290 t291 t294 t297 4 4).bind fun t327 => (some (!t327))) = some r := by rw [if_pos rfl] at H; exact H
                      clear H
                      have H := H1
                      clear H1
                      replace H := Option.bind_eq_some_iff.mp H
                      obtain ⟨t327, A300, H⟩ := H
                      replace H : (some (!t327)) = some r := H
                      have A30 := Aside0.mk A300
                      clear A300
                      obtain rfl := Option.some.inj H
                      go_enter Try.func38, Try.ntmps38
                      go_wp2_with (first | ((with_reducible refine gate_callee (f := 66) rfl ?_); refine goesL_ (some 6) rfl rfl Try.func66 (by kernel_rfl) rfl #[] rfl (by (try simp only [List.map_toArray, List.map_cons, List.map_nil]); first | done | rfl | (simp only [List.length_drop, List.length_take]; rfl)) ?_; (with_reducible refine (truantlaw10_four.calls  t286 t287 t290 t291 t294 t297 _ A1.out).mono ?_); rintro e w31 ⟨v288, v292, v295, v298, rfl, ho0, ho1, ho2, ho3, hb⟩; refine ⟨_, rfl, ?_⟩; have n0_ := Aside0.mk (Kd.R_lower ho0 (below_size (by repeat (first | (with_reducible first | exact HB.out | apply below_alloc | apply pw_below_drewN | apply below_drew1) | exact HB.out)))); have n1_ := Aside0.mk (Kd.R_lower ho1 (below_size (by repeat (first | (with_reducible first | exact HB.out | apply below_alloc | apply pw_below_drewN | apply below_drew1) | exact HB.out)))); have n2_ := Aside0.mk (Kd.S_lower ho2 (below_size (by repeat (first | (with_reducible first | exact HB.out | apply below_alloc | apply pw_below_drewN | apply below_drew1) | exact HB.out)))); have n3_ := Aside0.mk (Kd.S_lower ho3 (below_size (by repeat (first | (with_reducible first | exact HB.out | apply below_alloc | apply pw_below_drewN | apply below_drew1) | exact HB.out)))); have n4_ := Aside0.mk (below_step (by repeat (first | (with_reducible first | exact HB.out | apply below_alloc | apply pw_below_drewN | apply below_drew1) | exact HB.out)) hb); clear HB; have HO289 := n0_; have HO293 := n1_; have HO296 := n2_; have HO299 := n3_; have HB := n4_; clear n0_ n1_ n2_ n3_ n4_; (try clear hb); (try clear hb2); (try clear hk); (try clear hi); (try clear ho0); (try clear ho1); (try clear ho2); (try clear ho3)) | ((with_reducible refine gate_dst (N := 1) rfl ?_); (try (refine gate_guard (by rfl) ?_; dsimp only)); refine box_event ?hg (N := 1) ?hd (cs := #[.string (⟨#[]⟩ : ByteArray), .slice none 0 0, .string (⟨#[]⟩ : ByteArray), .slice none 0 0, .slice none 0 0, .slice none 0 0]) (t := 26) ?hr ?_; (case hd => rfl); (case hg => rfl); (case hr => first | (go_simp; done) | (go_simp; rfl)); intro gb300 hg w32 hbox hb; have n0_ := Aside0.mk (Kd.R_below (by (with_reducible repeat (first | apply Kd.R_alloc | apply Kd.R_drewN | apply Kd.R_drew)); exact HO289.out) hb); have n1_ := Aside0.mk (Kd.R_below (by (with_reducible repeat (first | apply Kd.R_alloc | apply Kd.R_drewN | apply Kd.R_drew)); exact HO293.out) hb); have n2_ := Aside0.mk (Kd.S_below (by (with_reducible repeat (first | apply Kd.S_alloc | apply Kd.S_drewN | apply Kd.S_drew)); exact HO296.out) hb); have n3_ := Aside0.mk (Kd.S_below (by (with_reducible repeat (first | apply Kd.S_alloc | apply Kd.S_drewN | apply Kd.S_drew)); exact HO299.out) hb); have n4_ := Aside0.mk (below_step (by repeat (first | (with_reducible first | exact HB.out | apply below_alloc | apply pw_below_drewN | apply below_drew1) | exact HB.out)) hb); have n5_ := Aside0.mk (hbox); have n6_ := Aside0.mk ((by rw [hg]; exact (below_size (by repeat (first | (with_reducible first | exact HB.out | apply below_alloc | apply pw_below_drewN | apply below_drew1) | exact HB.out))) : w.heap.size ≤ gb300)); have n7_ := Aside0.mk ((by rw [hg]; exact (below_size (by repeat (first | (with_reducible first | exact HB.out | apply below_alloc | apply pw_below_drewN | apply below_drew1) | exact HB.out))) : w.heap.size ≤ gb300)); clear HO289; clear HO293; clear HO296; clear HO299; clear HB; have HO289 := n0_; have HO293 := n1_; have HO296 := n2_; have HO299 := n3_; have HB := n4_; have BK300 := n5_; have GW300 := n6_; have GE300 := n7_; clear n0_ n1_ n2_ n3_ n4_ n5_ n6_ n7_; clear hb hbox hg; have hcz33_0 : w32.cell? ⟨gb300, 0, none⟩ = some (.string (⟨#[]⟩ : ByteArray)) := (blk_cell BK300.out 0).trans rfl; have hcz33_1 : w32.cell? ⟨gb300, 1, none⟩ = some (.slice none 0 0) := (blk_cell BK300.out 1).trans rfl; have hcz33_2 : w32.cell? ⟨gb300, 2, none⟩ = some (.string (⟨#[]⟩ : ByteArray)) := (blk_cell BK300.out 2).trans rfl; have hcz33_3 : w32.cell? ⟨gb300, 3, none⟩ = some (.slice none 0 0) := (blk_cell BK300.out 3).trans rfl; have hcz33_4 : w32.cell? ⟨gb300, 4, none⟩ = some (.slice none 0 0) := (blk_cell BK300.out 4).trans rfl; have hcz33_5 : w32.cell? ⟨gb300, 5, none⟩ = some (.slice none 0 0) := (blk_cell BK300.out 5).trans rfl; have hfz33_0 := blk_frozen BK300.out 0; have hfz33_1 := blk_frozen BK300.out 1; have hfz33_2 := blk_frozen BK300.out 2; have hfz33_3 := blk_frozen BK300.out 3; have hfz33_4 := blk_frozen BK300.out 4; have hfz33_5 := blk_frozen BK300.out 5; obtain ⟨Ao34, co34, eo34⟩ := Kd.R_slice HO289.out; subst eo34; obtain ⟨Ao35, co35, eo35⟩ := Kd.R_slice HO293.out; subst eo35; obtain ⟨Ao36, co36, eo36⟩ := Kd.S_slice HO296.out; subst eo36; obtain ⟨Ao37, co37, eo37⟩ := Kd.S_slice HO299.out; subst eo37) | ((with_reducible refine gate_callee (f := 40) rfl ?_); refine goesL_ (some 8) rfl rfl Try.func40 (by kernel_rfl) rfl #[.agg #[.string t286, .slice Ao34 t287.length co34, .string t290, .slice Ao35 t291.length co35, .slice Ao36 t294.length co36, .slice Ao37 t297.length co37]] rfl (by (try simp only [List.map_toArray, List.map_cons, List.map_nil]); first | done | rfl | (simp only [List.length_drop, List.length_take]; rfl)) ?_; (with_reducible refine (dom_Nearest.calls t286 _ _ t287 t290 _ _ t291 _ _ t294 _ _ t297 t301 _ ?side1 ?side2 ?side3 ?side4 ?side5 ?side6 ?side7 ?side8 A2.out).mono ?_); (case side1 => refine (Kd.R_reads' (e := 9) (base := w.heap.size) (ok := fun k_ => some k_ ≠ (.slice Ao35 t291.length co35 : Value).ownBlock) (n := t287.length) (c := co34) ?_).2.2; exact (by (with_reducible repeat (first | apply Kd.R_alloc | apply Kd.R_drewN | apply Kd.R_drew)); exact (Kd.R_mono (Kd.R_far (p := ⟨gb300, 5, none⟩) (Kd.R_far (p := ⟨gb300, 4, none⟩) (Kd.R_far (p := ⟨gb300, 3, none⟩) (Kd.R_far (p := ⟨gb300, 2, none⟩) (Kd.R_far (p := ⟨gb300, 1, none⟩) (Kd.R_far (p := ⟨gb300, 0, none⟩) (Kd.R_types HO289.out BK300.out (by decide)) (fun _ hk => hk.2) (.string t286)) (fun _ hk => hk.2) (.slice Ao34 t287.length co34)) (fun _ hk => hk.2) (.string t290)) (fun _ hk => hk.2) (.slice Ao35 t291.length co35)) (fun _ hk => hk.2) (.slice Ao36 t294.length co36)) (fun _ hk => hk.2) (.slice Ao37 t297.length co37)) (fun _ h_ => h_.1)))); (case side2 => exact (Kd.R_reads' HO289.out).2.1); (case side3 => refine (Kd.R_reads' (e := 9) (base := w.heap.size) (ok := fun k_ => some k_ ≠ (.slice Ao34 t287.length co34 : Value).ownBlock) (n := t291.length) (c := co35) ?_).2.2; exact (by (with_reducible repeat (first | apply Kd.R_alloc | apply Kd.R_drewN | apply Kd.R_drew)); exact (Kd.R_mono (Kd.R_far (p := ⟨gb300, 5, none⟩) (Kd.R_far (p := ⟨gb300, 4, none⟩) (Kd.R_far (p := ⟨gb300, 3, none⟩) (Kd.R_far (p := ⟨gb300, 2, none⟩) (Kd.R_far (p := ⟨gb300, 1, none⟩) (Kd.R_far (p := ⟨gb300, 0, none⟩) (Kd.R_types HO293.out BK300.out (by decide)) (fun _ hk => hk.2) (.string t286)) (fun _ hk => hk.2) (.slice Ao34 t287.length co34)) (fun _ hk => hk.2) (.string t290)) (fun _ hk => hk.2) (.slice Ao35 t291.length co35)) (fun _ hk => hk.2) (.slice Ao36 t294.length co36)) (fun _ hk => hk.2) (.slice Ao37 t297.length co37)) (fun _ h_ => h_.1)))); (case side4 => exact (Kd.R_reads' HO293.out).2.1); (case side5 => refine (Kd.S_reads' (e := 58) (base := w.heap.size) (ok := fun k_ => True) (n := t294.length) (c := co36) ?_).2.2; exact (by (with_reducible repeat (first | apply Kd.S_alloc | apply Kd.S_drewN | apply Kd.S_drew)); exact (Kd.S_mono (Kd.S_far (p := ⟨gb300, 5, none⟩) (Kd.S_far (p := ⟨gb300, 4, none⟩) (Kd.S_far (p := ⟨gb300, 3, none⟩) (Kd.S_far (p := ⟨gb300, 2, none⟩) (Kd.S_far (p := ⟨gb300, 1, none⟩) (Kd.S_far (p := ⟨gb300, 0, none⟩) (Kd.S_types HO296.out BK300.out (by decide)) (fun _ hk => hk.2) (.string t286)) (fun _ hk => hk.2) (.slice Ao34 t287.length co34)) (fun _ hk => hk.2) (.string t290)) (fun _ hk => hk.2) (.slice Ao35 t291.length co35)) (fun _ hk => hk.2) (.slice Ao36 t294.length co36)) (fun _ hk => hk.2) (.slice Ao37 t297.length co37)) (fun _ h_ => h_.1)))); (case side6 => exact (Kd.S_reads' HO296.out).2.1); (case side7 => refine (Kd.S_reads' (e := 40) (base := w.heap.size) (ok := fun k_ => True) (n := t297.length) (c := co37) ?_).2.2; exact (by (with_reducible repeat (first | apply Kd.S_alloc | apply Kd.S_drewN | apply Kd.S_drew)); exact (Kd.S_mono (Kd.S_far (p := ⟨gb300, 5, none⟩) (Kd.S_far (p := ⟨gb300, 4, none⟩) (Kd.S_far (p := ⟨gb300, 3, none⟩) (Kd.S_far (p := ⟨gb300, 2, none⟩) (Kd.S_far (p := ⟨gb300, 1, none⟩) (Kd.S_far (p := ⟨gb300, 0, none⟩) (Kd.S_types HO299.out BK300.out (by decide)) (fun _ hk => hk.2) (.string t286)) (fun _ hk => hk.2) (.slice Ao34 t287.length co34)) (fun _ hk => hk.2) (.string t290)) (fun _ hk => hk.2) (.slice Ao35 t291.length co35)) (fun _ hk => hk.2) (.slice Ao36 t294.length co36)) (fun _ hk => hk.2) (.slice Ao37 t297.length co37)) (fun _ h_ => h_.1)))); (case side8 => exact (Kd.S_reads' HO299.out).2.1); rintro e w38 ⟨v302, rfl, ho0, hb⟩; refine ⟨_, rfl, ?_⟩; have n0_ := Aside0.mk (Kd.R_below (by (with_reducible repeat (first | apply Kd.R_alloc | apply Kd.R_drewN | apply Kd.R_drew)); exact (Kd.R_mono (Kd.R_far (p := ⟨gb300, 5, none⟩) (Kd.R_far (p := ⟨gb300, 4, none⟩) (Kd.R_far (p := ⟨gb300, 3, none⟩) (Kd.R_far (p := ⟨gb300, 2, none⟩) (Kd.R_far (p := ⟨gb300, 1, none⟩) (Kd.R_far (p := ⟨gb300, 0, none⟩) (Kd.R_types HO289.out BK300.out (by decide)) (fun _ hk => hk.2) (.string t286)) (fun _ hk => hk.2) (.slice Ao34 t287.length co34)) (fun _ hk => hk.2) (.string t290)) (fun _ hk => hk.2) (.slice Ao35 t291.length co35)) (fun _ hk => hk.2) (.slice Ao36 t294.length co36)) (fun _ hk => hk.2) (.slice Ao37 t297.length co37)) (fun _ h_ => h_.1))) hb); have n1_ := Aside0.mk (Kd.R_below (by (with_reducible repeat (first | apply Kd.R_alloc | apply Kd.R_drewN | apply Kd.R_drew)); exact (Kd.R_mono (Kd.R_far (p := ⟨gb300, 5, none⟩) (Kd.R_far (p := ⟨gb300, 4, none⟩) (Kd.R_far (p := ⟨gb300, 3, none⟩) (Kd.R_far (p := ⟨gb300, 2, none⟩) (Kd.R_far (p := ⟨gb300, 1, none⟩) (Kd.R_far (p := ⟨gb300, 0, none⟩) (Kd.R_types HO293.out BK300.out (by decide)) (fun _ hk => hk.2) (.string t286)) (fun _ hk => hk.2) (.slice Ao34 t287.length co34)) (fun _ hk => hk.2) (.string t290)) (fun _ hk => hk.2) (.slice Ao35 t291.length co35)) (fun _ hk => hk.2) (.slice Ao36 t294.length co36)) (fun _ hk => hk.2) (.slice Ao37 t297.length co37)) (fun _ h_ => h_.1))) hb); have n2_ := Aside0.mk (Kd.S_elder' (by (with_reducible repeat (first | apply Kd.S_alloc | apply Kd.S_drewN | apply Kd.S_drew)); exact (Kd.S_mono (Kd.S_far (p := ⟨gb300, 5, none⟩) (Kd.S_far (p := ⟨gb300, 4, none⟩) (Kd.S_far (p := ⟨gb300, 3, none⟩) (Kd.S_far (p := ⟨gb300, 2, none⟩) (Kd.S_far (p := ⟨gb300, 1, none⟩) (Kd.S_far (p := ⟨gb300, 0, none⟩) (Kd.S_types HO296.out BK300.out (by decide)) (fun _ hk => hk.2) (.string t286)) (fun _ hk => hk.2) (.slice Ao34 t287.length co34)) (fun _ hk => hk.2) (.string t290)) (fun _ hk => hk.2) (.slice Ao35 t291.length co35)) (fun _ hk => hk.2) (.slice Ao36 t294.length co36)) (fun _ hk => hk.2) (.slice Ao37 t297.length co37)) (fun _ h_ => h_.1))) (Kd.R_base ho0) hb); have n3_ := Aside0.mk (Kd.S_elder' (by (with_reducible repeat (first | apply Kd.S_alloc | apply Kd.S_drewN | apply Kd.S_drew)); exact (Kd.S_mono (Kd.S_far (p := ⟨gb300, 5, none⟩) (Kd.S_far (p := ⟨gb300, 4, none⟩) (Kd.S_far (p := ⟨gb300, 3, none⟩) (Kd.S_far (p := ⟨gb300, 2, none⟩) (Kd.S_far (p := ⟨gb300, 1, none⟩) (Kd.S_far (p := ⟨gb300, 0, none⟩) (Kd.S_types HO299.out BK300.out (by decide)) (fun _ hk => hk.2) (.string t286)) (fun _ hk => hk.2) (.slice Ao34 t287.length co34)) (fun _ hk => hk.2) (.string t290)) (fun _ hk => hk.2) (.slice Ao35 t291.length co35)) (fun _ hk => hk.2) (.slice Ao36 t294.length co36)) (fun _ hk => hk.2) (.slice Ao37 t297.length co37)) (fun _ h_ => h_.1))) (Kd.R_base ho0) hb); have n4_ := Aside0.mk (Kd.R_lower ho0 (below_size (by repeat (first | (with_reducible first | exact HB.out | apply below_alloc | apply pw_below_drewN | apply below_drew1 | refine below_set ?_ GE300.out) | exact HB.out)))); have n5_ := Aside0.mk (blk_below (g := gb300) (o := .cells #[.string t286, .slice Ao34 t287.length co34, .string t290, .slice Ao35 t291.length co35, .slice Ao36 t294.length co36, .slice Ao37 t297.length co37] 26 (0, 0)) (by (with_reducible repeat (first | refine blk_drewN ?_ _ | refine blk_drew ?_ | refine blk_alloc ?_ _)); refine blk_put (cs := #[.string t286, .slice Ao34 t287.length co34, .string t290, .slice Ao35 t291.length co35, .slice Ao36 t294.length co36, .slice none 0 0]) ?_ 5 _ rfl; (with_reducible repeat (first | refine blk_drewN ?_ _ | refine blk_drew ?_ | refine blk_alloc ?_ _)); refine blk_put (cs := #[.string t286, .slice Ao34 t287.length co34, .string t290, .slice Ao35 t291.length co35, .slice none 0 0, .slice none 0 0]) ?_ 4 _ rfl; (with_reducible repeat (first | refine blk_drewN ?_ _ | refine blk_drew ?_ | refine blk_alloc ?_ _)); refine blk_put (cs := #[.string t286, .slice Ao34 t287.length co34, .string t290, .slice none 0 0, .slice none 0 0, .slice none 0 0]) ?_ 3 _ rfl; (with_reducible repeat (first | refine blk_drewN ?_ _ | refine blk_drew ?_ | refine blk_alloc ?_ _)); refine blk_put (cs := #[.string t286, .slice Ao34 t287.length co34, .string (⟨#[]⟩ : ByteArray), .slice none 0 0, .slice none 0 0, .slice none 0 0]) ?_ 2 _ rfl; (with_reducible repeat (first | refine blk_drewN ?_ _ | refine blk_drew ?_ | refine blk_alloc ?_ _)); refine blk_put (cs := #[.string t286, .slice none 0 0, .string (⟨#[]⟩ : ByteArray), .slice none 0 0, .slice none 0 0, .slice none 0 0]) ?_ 1 _ rfl; (with_reducible repeat (first | refine blk_drewN ?_ _ | refine blk_drew ?_ | refine blk_alloc ?_ _)); refine blk_put (cs := #[.string (⟨#[]⟩ : ByteArray), .slice none 0 0, .string (⟨#[]⟩ : ByteArray), .slice none 0 0, .slice none 0 0, .slice none 0 0]) ?_ 0 _ rfl; (with_reducible repeat (first | refine blk_drewN ?_ _ | refine blk_drew ?_ | refine blk_alloc ?_ _)); exact BK300.out) hb); have n6_ := Aside0.mk (below_step (by repeat (first | (with_reducible first | exact HB.out | apply below_alloc | apply pw_below_drewN | apply below_drew1 | refine below_set ?_ GE300.out) | exact HB.out)) hb); clear HO289; clear HO293; clear HO296; clear HO299; clear BK300; clear HB; have HO289 := n0_; have HO293 := n1_; have HO296 := n2_; have HO299 := n3_; have HO303 := n4_; have BK300 := n5_; have HB := n6_; clear n0_ n1_ n2_ n3_ n4_ n5_ n6_; (try clear hb); (try clear hb2); (try clear hk); (try clear hi); (try clear ho0); have hcz39_0 : w38.cell? ⟨gb300, 0, none⟩ = some (.string t286) := (blk_cell BK300.out 0).trans rfl; have hcz39_1 : w38.cell? ⟨gb300, 1, none⟩ = some (.slice Ao34 t287.length co34) := (blk_cell BK300.out 1).trans rfl; have hcz39_2 : w38.cell? ⟨gb300, 2, none⟩ = some (.string t290) := (blk_cell BK300.out 2).trans rfl; have hcz39_3 : w38.cell? ⟨gb300, 3, none⟩ = some (.slice Ao35 t291.length co35) := (blk_cell BK300.out 3).trans rfl; have hcz39_4 : w38.cell? ⟨gb300, 4, none⟩ = some (.slice Ao36 t294.length co36) := (blk_cell BK300.out 4).trans rfl; have hcz39_5 : w38.cell? ⟨gb300, 5, none⟩ = some (.slice Ao37 t297.length co37) := (blk_cell BK300.out 5).trans rfl; have hfz39_0 := blk_frozen BK300.out 0; have hfz39_1 := blk_frozen BK300.out 1; have hfz39_2 := blk_frozen BK300.out 2; have hfz39_3 := blk_frozen BK300.out 3; have hfz39_4 := blk_frozen BK300.out 4; have hfz39_5 := blk_frozen BK300.out 5) | ((with_reducible refine gate_callee (f := 45) rfl ?_); refine goesL_ (some 10) rfl rfl Try.func45 (by kernel_rfl) rfl #[.agg #[.string t286, .slice Ao34 t287.length co34, .string t290, .slice Ao35 t291.length co35, .slice Ao36 t294.length co36, .slice Ao37 t297.length co37]] rfl (by (try simp only [List.map_toArray, List.map_cons, List.map_nil]); first | done | rfl | (simp only [List.length_drop, List.length_take]; rfl)) ?_; (with_reducible refine (dom_Front.calls t286 _ _ t287 t290 _ _ t291 _ _ t294 _ _ t297 t304 _ ?side1 ?side2 ?side3 ?side4 ?side5 ?side6 ?side7 ?side8 A3.out).mono ?_); (case side1 => repeat (first | exact (Kd.R_reads' HO289.out).2.2 | (with_reducible refine Kd.C_alloc ?_ _) | (with_reducible refine Kd.C_drewN ?_ _) | (with_reducible refine Kd.C_drew ?_))); (case side2 => exact (Kd.R_reads' HO289.out).2.1); (case side3 => repeat (first | exact (Kd.R_reads' HO293.out).2.2 | (with_reducible refine Kd.C_alloc ?_ _) | (with_reducible refine Kd.C_drewN ?_ _) | (with_reducible refine Kd.C_drew ?_))); (case side4 => exact (Kd.R_reads' HO293.out).2.1); (case side5 => repeat (first | exact (Kd.S_reads' HO296.out).2.2 | (with_reducible refine Kd.C_alloc ?_ _) | (with_reducible refine Kd.C_drewN ?_ _) | (with_reducible refine Kd.C_drew ?_))); (case side6 => exact (Kd.S_reads' HO296.out).2.1); (case side7 => repeat (first | exact (Kd.S_reads' HO299.out).2.2 | (with_reducible refine Kd.C_alloc ?_ _) | (with_reducible refine Kd.C_drewN ?_ _) | (with_reducible refine Kd.C_drew ?_))); (case side8 => exact (Kd.S_reads' HO299.out).2.1); rintro e w40 ⟨v305, rfl, ho0, hb⟩; refine ⟨_, rfl, ?_⟩; have n0_ := Aside0.mk (Kd.R_below (by (with_reducible repeat (first | apply Kd.R_alloc | apply Kd.R_drewN | apply Kd.R_drew)); exact HO289.out) hb); have n1_ := Aside0.mk (Kd.R_below (by (with_reducible repeat (first | apply Kd.R_alloc | apply Kd.R_drewN | apply Kd.R_drew)); exact HO293.out) hb); have n2_ := Aside0.mk (Kd.S_below (by (with_reducible repeat (first | apply Kd.S_alloc | apply Kd.S_drewN | apply Kd.S_drew)); exact HO296.out) hb); have n3_ := Aside0.mk (Kd.S_below (by (with_reducible repeat (first | apply Kd.S_alloc | apply Kd.S_drewN | apply Kd.S_drew)); exact HO299.out) hb); have n4_ := Aside0.mk (Kd.R_below (by (with_reducible repeat (first | apply Kd.R_alloc | apply Kd.R_drewN | apply Kd.R_drew)); exact HO303.out) hb); have n5_ := Aside0.mk (Kd.S_lower (Kd.S_new' ho0 (Kd.R_lt (by (with_reducible repeat (first | apply Kd.R_alloc | apply Kd.R_drewN | apply Kd.R_drew)); exact HO303.out))) (below_size (by repeat (first | (with_reducible first | exact HB.out | apply below_alloc | apply pw_below_drewN | apply below_drew1 | refine below_set ?_ GE300.out) | exact HB.out)))); have n6_ := Aside0.mk (blk_below (g := gb300) (o := .cells #[.string t286, .slice Ao34 t287.length co34, .string t290, .slice Ao35 t291.length co35, .slice Ao36 t294.length co36, .slice Ao37 t297.length co37] 26 (0, 0)) (by (with_reducible repeat (first | refine blk_drewN ?_ _ | refine blk_drew ?_ | refine blk_alloc ?_ _)); exact BK300.out) hb); have n7_ := Aside0.mk (below_step (by repeat (first | (with_reducible first | exact HB.out | apply below_alloc | apply pw_below_drewN | apply below_drew1 | refine below_set ?_ GE300.out) | exact HB.out)) hb); clear HO289; clear HO293; clear HO296; clear HO299; clear HO303; clear BK300; clear HB; have HO289 := n0_; have HO293 := n1_; have HO296 := n2_; have HO299 := n3_; have HO303 := n4_; have HO306 := n5_; have BK300 := n6_; have HB := n7_; clear n0_ n1_ n2_ n3_ n4_ n5_ n6_ n7_; (try clear hb); (try clear hb2); (try clear hk); (try clear hi); (try clear ho0); have hcz41_0 : w40.cell? ⟨gb300, 0, none⟩ = some (.string t286) := (blk_cell BK300.out 0).trans rfl; have hcz41_1 : w40.cell? ⟨gb300, 1, none⟩ = some (.slice Ao34 t287.length co34) := (blk_cell BK300.out 1).trans rfl; have hcz41_2 : w40.cell? ⟨gb300, 2, none⟩ = some (.string t290) := (blk_cell BK300.out 2).trans rfl; have hcz41_3 : w40.cell? ⟨gb300, 3, none⟩ = some (.slice Ao35 t291.length co35) := (blk_cell BK300.out 3).trans rfl; have hcz41_4 : w40.cell? ⟨gb300, 4, none⟩ = some (.slice Ao36 t294.length co36) := (blk_cell BK300.out 4).trans rfl; have hcz41_5 : w40.cell? ⟨gb300, 5, none⟩ = some (.slice Ao37 t297.length co37) := (blk_cell BK300.out 5).trans rfl; have hfz41_0 := blk_frozen BK300.out 0; have hfz41_1 := blk_frozen BK300.out 1; have hfz41_2 := blk_frozen BK300.out 2; have hfz41_3 := blk_frozen BK300.out 3; have hfz41_4 := blk_frozen BK300.out 4; have hfz41_5 := blk_frozen BK300.out 5) | ((with_reducible refine gate_callee (f := 42) rfl ?_); refine goesL_ (some 12) rfl rfl Try.func42 (by kernel_rfl) rfl #[.agg #[.string t286, .slice Ao34 t287.length co34, .string t290, .slice Ao35 t291.length co35, .slice Ao36 t294.length co36, .slice Ao37 t297.length co37]] rfl (by (try simp only [List.map_toArray, List.map_cons, List.map_nil]); first | done | rfl | (simp only [List.length_drop, List.length_take]; rfl)) ?_; (with_reducible refine (dom_Under.calls k t286 _ _ t287 t290 _ _ t291 _ _ t294 _ _ t297 t307 _ ?side1 ?side2 ?side3 ?side4 ?side5 ?side6 ?side7 ?side8 A4.out).mono ?_); (case side1 => repeat (first | exact (Kd.R_reads' HO289.out).2.2 | (with_reducible refine Kd.C_alloc ?_ _) | (with_reducible refine Kd.C_drewN ?_ _) | (with_reducible refine Kd.C_drew ?_))); (case side2 => exact (Kd.R_reads' HO289.out).2.1); (case side3 => repeat (first | exact (Kd.R_reads' HO293.out).2.2 | (with_reducible refine Kd.C_alloc ?_ _) | (with_reducible refine Kd.C_drewN ?_ _) | (with_reducible refine Kd.C_drew ?_))); (case side4 => exact (Kd.R_reads' HO293.out).2.1); (case side5 => repeat (first | exact (Kd.S_reads' HO296.out).2.2 | (with_reducible refine Kd.C_alloc ?_ _) | (with_reducible refine Kd.C_drewN ?_ _) | (with_reducible refine Kd.C_drew ?_))); (case side6 => exact (Kd.S_reads' HO296.out).2.1); (case side7 => repeat (first | exact (Kd.S_reads' HO299.out).2.2 | (with_reducible refine Kd.C_alloc ?_ _) | (with_reducible refine Kd.C_drewN ?_ _) | (with_reducible refine Kd.C_drew ?_))); (case side8 => exact (Kd.S_reads' HO299.out).2.1); rintro e w42 ⟨v308, rfl, ho0, hb⟩; refine ⟨_, rfl, ?_⟩; have n0_ := Aside0.mk (Kd.R_below (by (with_reducible repeat (first | apply Kd.R_alloc | apply Kd.R_drewN | apply Kd.R_drew)); exact HO289.out) hb); have n1_ := Aside0.mk (Kd.R_below (by (with_reducible repeat (first | apply Kd.R_alloc | apply Kd.R_drewN | apply Kd.R_drew)); exact HO293.out) hb); have n2_ := Aside0.mk (Kd.S_below (by (with_reducible repeat (first | apply Kd.S_alloc | apply Kd.S_drewN | apply Kd.S_drew)); exact HO296.out) hb); have n3_ := Aside0.mk (Kd.S_below (by (with_reducible repeat (first | apply Kd.S_alloc | apply Kd.S_drewN | apply Kd.S_drew)); exact HO299.out) hb); have n4_ := Aside0.mk (Kd.R_below (by (with_reducible repeat (first | apply Kd.R_alloc | apply Kd.R_drewN | apply Kd.R_drew)); exact HO303.out) hb); have n5_ := Aside0.mk (Kd.S_elder' (by (with_reducible repeat (first | apply Kd.S_alloc | apply Kd.S_drewN | apply Kd.S_drew)); exact HO306.out) (Kd.S_base ho0) hb); have n6_ := Aside0.mk (Kd.S_lower (Kd.S_new' (Kd.S_new' ho0 (Kd.R_lt (by (with_reducible repeat (first | apply Kd.R_alloc | apply Kd.R_drewN | apply Kd.R_drew)); exact HO303.out))) (Kd.S_lt (by (with_reducible repeat (first | apply Kd.S_alloc | apply Kd.S_drewN | apply Kd.S_drew)); exact HO306.out))) (below_size (by repeat (first | (with_reducible first | exact HB.out | apply below_alloc | apply pw_below_drewN | apply below_drew1 | refine below_set ?_ GE300.out) | exact HB.out)))); have n7_ := Aside0.mk (blk_below (g := gb300) (o := .cells #[.string t286, .slice Ao34 t287.length co34, .string t290, .slice Ao35 t291.length co35, .slice Ao36 t294.length co36, .slice Ao37 t297.length co37] 26 (0, 0)) (by (with_reducible repeat (first | refine blk_drewN ?_ _ | refine blk_drew ?_ | refine blk_alloc ?_ _)); exact BK300.out) hb); have n8_ := Aside0.mk (below_step (by repeat (first | (with_reducible first | exact HB.out | apply below_alloc | apply pw_below_drewN | apply below_drew1 | refine below_set ?_ GE300.out) | exact HB.out)) hb); clear HO289; clear HO293; clear HO296; clear HO299; clear HO303; clear HO306; clear BK300; clear HB; have HO289 := n0_; have HO293 := n1_; have HO296 := n2_; have HO299 := n3_; have HO303 := n4_; have HO306 := n5_; have HO309 := n6_; have BK300 := n7_; have HB := n8_; clear n0_ n1_ n2_ n3_ n4_ n5_ n6_ n7_ n8_; (try clear hb); (try clear hb2); (try clear hk); (try clear hi); (try clear ho0); have hcz43_0 : w42.cell? ⟨gb300, 0, none⟩ = some (.string t286) := (blk_cell BK300.out 0).trans rfl; have hcz43_1 : w42.cell? ⟨gb300, 1, none⟩ = some (.slice Ao34 t287.length co34) := (blk_cell BK300.out 1).trans rfl; have hcz43_2 : w42.cell? ⟨gb300, 2, none⟩ = some (.string t290) := (blk_cell BK300.out 2).trans rfl; have hcz43_3 : w42.cell? ⟨gb300, 3, none⟩ = some (.slice Ao35 t291.length co35) := (blk_cell BK300.out 3).trans rfl; have hcz43_4 : w42.cell? ⟨gb300, 4, none⟩ = some (.slice Ao36 t294.length co36) := (blk_cell BK300.out 4).trans rfl; have hcz43_5 : w42.cell? ⟨gb300, 5, none⟩ = some (.slice Ao37 t297.length co37) := (blk_cell BK300.out 5).trans rfl; have hfz43_0 := blk_frozen BK300.out 0; have hfz43_1 := blk_frozen BK300.out 1; have hfz43_2 := blk_frozen BK300.out 2; have hfz43_3 := blk_frozen BK300.out 3; have hfz43_4 := blk_frozen BK300.out 4; have hfz43_5 := blk_frozen BK300.out 5) | ((with_reducible refine gate_dst (N := 14) rfl ?_); (try (refine gate_guard (by rfl) ?_; dsimp only)); refine Kd.R_lit (Kd.int .i64) _ 3 ?hg (N := 14) ?hd (xs := ([1] : List Int)) (inner := [.int .i64 1]) (ok := fun _ => True) (okp := fun _ => True) ?hr ?hp (fun _ hk => hk) trivial (Below.refl _ _) (Nat.le_refl _) (by simp) ?_; (case hd => rfl); (case hg => rfl); (case hr => first | (go_simp; done) | (go_simp; rfl)); (case hp => exact (Reps.one (show Kd.M (Kd.int .i64) _ _ _ 1 [.int .i64 1] from rfl) (Reps.none _ _))); intro v311 w44 ho45 hb hg_ hnew_; clear hg_ hnew_; (first | rw [← Ny310.out] at ho45 | (simp only [Int.reduceToNat] at ho45; rw [← Ny310.out] at ho45)); have n0_ := Aside0.mk (Kd.R_below (by (with_reducible repeat (first | apply Kd.R_alloc | apply Kd.R_drewN | apply Kd.R_drew)); exact HO289.out) hb); have n1_ := Aside0.mk (Kd.R_below (by (with_reducible repeat (first | apply Kd.R_alloc | apply Kd.R_drewN | apply Kd.R_drew)); exact HO293.out) hb); have n2_ := Aside0.mk (Kd.S_elder' (by (with_reducible repeat (first | apply Kd.S_alloc | apply Kd.S_drewN | apply Kd.S_drew)); exact HO296.out) (Kd.R_base ho45) hb); have n3_ := Aside0.mk (Kd.S_elder' (by (with_reducible repeat (first | apply Kd.S_alloc | apply Kd.S_drewN | apply Kd.S_drew)); exact HO299.out) (Kd.R_base ho45) hb); have n4_ := Aside0.mk (Kd.R_elder' (by (with_reducible repeat (first | apply Kd.R_alloc | apply Kd.R_drewN | apply Kd.R_drew)); exact HO303.out) (Kd.R_base ho45) hb); have n5_ := Aside0.mk (Kd.S_elder' (by (with_reducible repeat (first | apply Kd.S_alloc | apply Kd.S_drewN | apply Kd.S_drew)); exact HO306.out) (Kd.R_base ho45) hb); have n6_ := Aside0.mk (Kd.S_elder' (by (with_reducible repeat (first | apply Kd.S_alloc | apply Kd.S_drewN | apply Kd.S_drew)); exact HO309.out) (Kd.R_base ho45) hb); have n7_ := Aside0.mk (Kd.R_lower (Kd.R_new' ho45 (Kd.R_lt (by (with_reducible repeat (first | apply Kd.R_alloc | apply Kd.R_drewN | apply Kd.R_drew)); exact HO303.out))) (below_size (by repeat (first | (with_reducible first | exact HB.out | apply below_alloc | apply pw_below_drewN | apply below_drew1 | refine below_set ?_ GE300.out) | exact HB.out)))); have n8_ := Aside0.mk (blk_below (g := gb300) (o := .cells #[.string t286, .slice Ao34 t287.length co34, .string t290, .slice Ao35 t291.length co35, .slice Ao36 t294.length co36, .slice Ao37 t297.length co37] 26 (0, 0)) (by (with_reducible repeat (first | refine blk_drewN ?_ _ | refine blk_drew ?_ | refine blk_alloc ?_ _)); exact BK300.out) hb); have n9_ := Aside0.mk (below_step (by repeat (first | (with_reducible first | exact HB.out | apply below_alloc | apply pw_below_drewN | apply below_drew1 | refine below_set ?_ GE300.out) | exact HB.out)) hb); clear HO289; clear HO293; clear HO296; clear HO299; clear HO303; clear HO306; clear HO309; clear BK300; clear HB; have HO289 := n0_; have HO293 := n1_; have HO296 := n2_; have HO299 := n3_; have HO303 := n4_; have HO306 := n5_; have HO309 := n6_; have HO312 := n7_; have BK300 := n8_; have HB := n9_; clear n0_ n1_ n2_ n3_ n4_ n5_ n6_ n7_ n8_ n9_; clear hb ho45; obtain ⟨Ao46, co46, eo46⟩ := Kd.R_slice HO312.out; subst eo46) | ((with_reducible refine gate_callee (f := 47) rfl ?_); refine goesL_ (some 15) rfl rfl Try.func47 (by kernel_rfl) rfl #[.agg #[.string t286, .slice Ao34 t287.length co34, .string t290, .slice Ao35 t291.length co35, .slice Ao36 t294.length co36, .slice Ao37 t297.length co37], .slice Ao46 y310.length co46] rfl (by (try simp only [List.map_toArray, List.map_cons, List.map_nil]); first | done | rfl | (simp only [List.length_drop, List.length_take]; rfl)) ?_; (with_reducible refine (dom_Fronts.calls t286 _ _ t287 t290 _ _ t291 _ _ t294 _ _ t297 _ _ y310 t313 _ ?side1 ?side2 ?side3 ?side4 ?side5 ?side6 ?side7 ?side8 ?side9 ?side10 A5.out).mono ?_); (case side1 => repeat (first | exact (Kd.R_reads' HO289.out).2.2 | (with_reducible refine Kd.C_alloc ?_ _) | (with_reducible refine Kd.C_drewN ?_ _) | (with_reducible refine Kd.C_drew ?_))); (case side2 => exact (Kd.R_reads' HO289.out).2.1); (case side3 => repeat (first | exact (Kd.R_reads' HO293.out).2.2 | (with_reducible refine Kd.C_alloc ?_ _) | (with_reducible refine Kd.C_drewN ?_ _) | (with_reducible refine Kd.C_drew ?_))); (case side4 => exact (Kd.R_reads' HO293.out).2.1); (case side5 => repeat (first | exact (Kd.S_reads' HO296.out).2.2 | (with_reducible refine Kd.C_alloc ?_ _) | (with_reducible refine Kd.C_drewN ?_ _) | (with_reducible refine Kd.C_drew ?_))); (case side6 => exact (Kd.S_reads' HO296.out).2.1); (case side7 => repeat (first | exact (Kd.S_reads' HO299.out).2.2 | (with_reducible refine Kd.C_alloc ?_ _) | (with_reducible refine Kd.C_drewN ?_ _) | (with_reducible refine Kd.C_drew ?_))); (case side8 => exact (Kd.S_reads' HO299.out).2.1); (case side9 => repeat (first | exact (Kd.R_reads' HO312.out).2.2 | (with_reducible refine Kd.C_alloc ?_ _) | (with_reducible refine Kd.C_drewN ?_ _) | (with_reducible refine Kd.C_drew ?_))); (case side10 => exact (Kd.R_reads' HO312.out).2.1); rintro e w47 ⟨v314, rfl, ho0, hb⟩; refine ⟨_, rfl, ?_⟩; have n0_ := Aside0.mk (Kd.R_below (by (with_reducible repeat (first | apply Kd.R_alloc | apply Kd.R_drewN | apply Kd.R_drew)); exact HO289.out) hb); have n1_ := Aside0.mk (Kd.R_below (by (with_reducible repeat (first | apply Kd.R_alloc | apply Kd.R_drewN | apply Kd.R_drew)); exact HO293.out) hb); have n2_ := Aside0.mk (Kd.S_elder' (by (with_reducible repeat (first | apply Kd.S_alloc | apply Kd.S_drewN | apply Kd.S_drew)); exact HO296.out) (Kd.R_base ho0) hb); have n3_ := Aside0.mk (Kd.S_elder' (by (with_reducible repeat (first | apply Kd.S_alloc | apply Kd.S_drewN | apply Kd.S_drew)); exact HO299.out) (Kd.R_base ho0) hb); have n4_ := Aside0.mk (Kd.R_elder' (by (with_reducible repeat (first | apply Kd.R_alloc | apply Kd.R_drewN | apply Kd.R_drew)); exact HO303.out) (Kd.R_base ho0) hb); have n5_ := Aside0.mk (Kd.S_elder' (by (with_reducible repeat (first | apply Kd.S_alloc | apply Kd.S_drewN | apply Kd.S_drew)); exact HO306.out) (Kd.R_base ho0) hb); have n6_ := Aside0.mk (Kd.S_elder' (by (with_reducible repeat (first | apply Kd.S_alloc | apply Kd.S_drewN | apply Kd.S_drew)); exact HO309.out) (Kd.R_base ho0) hb); have n7_ := Aside0.mk (Kd.R_elder' (by (with_reducible repeat (first | apply Kd.R_alloc | apply Kd.R_drewN | apply Kd.R_drew)); exact HO312.out) (Kd.R_base ho0) hb); have n8_ := Aside0.mk (Kd.R_lower (Kd.R_new' (Kd.R_new' ho0 (Kd.R_lt (by (with_reducible repeat (first | apply Kd.R_alloc | apply Kd.R_drewN | apply Kd.R_drew)); exact HO303.out))) (Kd.R_lt (by (with_reducible repeat (first | apply Kd.R_alloc | apply Kd.R_drewN | apply Kd.R_drew)); exact HO312.out))) (below_size (by repeat (first | (with_reducible first | exact HB.out | apply below_alloc | apply pw_below_drewN | apply below_drew1 | refine below_set ?_ GE300.out) | exact HB.out)))); have n9_ := Aside0.mk (blk_below (g := gb300) (o := .cells #[.string t286, .slice Ao34 t287.length co34, .string t290, .slice Ao35 t291.length co35, .slice Ao36 t294.length co36, .slice Ao37 t297.length co37] 26 (0, 0)) (by (with_reducible repeat (first | refine blk_drewN ?_ _ | refine blk_drew ?_ | refine blk_alloc ?_ _)); exact BK300.out) hb); have n10_ := Aside0.mk (below_step (by repeat (first | (with_reducible first | exact HB.out | apply below_alloc | apply pw_below_drewN | apply below_drew1 | refine below_set ?_ GE300.out) | exact HB.out)) hb); clear HO289; clear HO293; clear HO296; clear HO299; clear HO303; clear HO306; clear HO309; clear HO312; clear BK300; clear HB; have HO289 := n0_; have HO293 := n1_; have HO296 := n2_; have HO299 := n3_; have HO303 := n4_; have HO306 := n5_; have HO309 := n6_; have HO312 := n7_; have HO315 := n8_; have BK300 := n9_; have HB := n10_; clear n0_ n1_ n2_ n3_ n4_ n5_ n6_ n7_ n8_ n9_ n10_; (try clear hb); (try clear hb2); (try clear hk); (try clear hi); (try clear ho0); obtain ⟨Ao48, co48, eo48⟩ := Kd.R_slice HO303.out; subst eo48; have p316 : 0 ≤ (0 : Int) := (by omega); have q316 : 0 < (t301.length : Int) := of_decide_eq_true (by first | (with_reducible assumption) | assumption); obtain ⟨ad316, e316, hx316_0⟩ := Kd.at_int (Kd.R_reads' HO303.out).2.2 0 p316 q316; cases e316; have qi316 : (0 < t301.length) = True := eq_true (by omega); (try rw [show ((0 : Int)).toNat = 0 from rfl] at hx316_0); (try rw [Addr.add_zero'] at hx316_0); replace p316 := eq_true p316; replace q316 := eq_true q316; have p317 : 0 ≤ (3 : Int) := (by omega); have q317 : 3 < (t301.length : Int) := of_decide_eq_true (by first | (with_reducible assumption) | assumption); obtain ⟨ad317, e317, hx317_0⟩ := Kd.at_int (Kd.R_reads' HO303.out).2.2 3 p317 q317; obtain rfl : ad316 = ad317 := (by injection e317); (try simp only [show (3 : Int).toNat = 3 from rfl, Nat.reduceMul, Nat.reduceEqDiff, Go.Addr.add, ↓reduceIte] at hx317_0); have qi317 : (3 < t301.length) = True := eq_true (by omega); (try rw [show ((3 : Int)).toNat = 3 from rfl] at hx317_0); replace p317 := eq_true p317; replace q317 := eq_true q317; obtain ⟨Ao49, co49, eo49⟩ := Kd.S_slice HO306.out; subst eo49; have p318 : 0 ≤ (1 : Int) := (by omega); have q318 : 1 < (t304.length : Int) := of_decide_eq_true (by first | (with_reducible assumption) | assumption); obtain ⟨ad318, A318_0, c318_0, e318, hx318_0, hl318_0, hi318_0⟩ := at_L2 (Kd.S_reads' HO306.out).2.2 1 p318 q318; cases e318; obtain ⟨ce318, hce318, hMe318, hcc318⟩ := Kd.S_get HO306.out [] 1 p318 (by first | exact q318 | exact of_decide_eq_true (by first | (with_reducible assumption) | assumption) | (have e_ := (Kd.S_reads' HO306.out).1; omega)); obtain ⟨ve318_0, rfl, ge318_0⟩ := hMe318; have hv318_0 := hcc318 0 _ rfl; rw [Nat.add_zero, show ((Kd.slice 3 (Kd.int .i64))).sz = 1 from rfl, Nat.mul_one] at hv318_0; replace hv318_0 := Option.some.inj (hv318_0.symm.trans hx318_0); rw [hv318_0] at ge318_0; have HL318_0 := Aside0.mk (show Kd.R (Kd.int .i64) 3 _ _ _ _ (rd_L2 t304 1) from ge318_0); clear hv318_0 ge318_0; clear hcc318 hce318; (try simp only [show (1 : Int).toNat = 1 from rfl, Nat.reduceMul, Nat.reduceEqDiff, Go.Addr.add, ↓reduceIte] at hx318_0); have qi318 : (1 < t304.length) = True := eq_true (by omega); (try rw [show ((1 : Int)).toNat = 1 from rfl] at hx318_0); have HR318_0 := Aside0.mk hi318_0; have HC318_0 := Aside0.mk hl318_0; clear hi318_0 hl318_0; replace p318 := eq_true p318; replace q318 := eq_true q318; have p319 : 0 ≤ (1 : Int) := (by omega); have q319 : 1 < (t304.length : Int) := of_decide_eq_true (by first | (with_reducible assumption) | assumption); obtain ⟨ad319, A319_0, c319_0, e319, hx319_0, hl319_0, hi319_0⟩ := at_L2 (Kd.S_reads' HO306.out).2.2 1 p319 q319; obtain rfl : ad318 = ad319 := (by injection e319); obtain ⟨ce319, hce319, hMe319, hcc319⟩ := Kd.S_get HO306.out [] 1 p319 (by first | exact q319 | exact of_decide_eq_true (by first | (with_reducible assumption) | assumption) | (have e_ := (Kd.S_reads' HO306.out).1; omega)); obtain ⟨ve319_0, rfl, ge319_0⟩ := hMe319; have hv319_0 := hcc319 0 _ rfl; rw [Nat.add_zero, show ((Kd.slice 3 (Kd.int .i64))).sz = 1 from rfl, Nat.mul_one] at hv319_0; replace hv319_0 := Option.some.inj (hv319_0.symm.trans hx319_0); rw [hv319_0] at ge319_0; have HL319_0 := Aside0.mk (show Kd.R (Kd.int .i64) 3 _ _ _ _ (rd_L2 t304 1) from ge319_0); clear hv319_0 ge319_0; clear hcc319 hce319; (try simp only [show (1 : Int).toNat = 1 from rfl, Nat.reduceMul, Nat.reduceEqDiff, Go.Addr.add, ↓reduceIte] at hx319_0); have qi319 : (1 < t304.length) = True := eq_true (by omega); (try rw [show ((1 : Int)).toNat = 1 from rfl] at hx319_0); have HR319_0 := Aside0.mk hi319_0; have HC319_0 := Aside0.mk hl319_0; clear hi319_0 hl319_0; replace p319 := eq_true p319; replace q319 := eq_true q319; have ea_ := Option.some.inj (hx318_0.symm.trans hx319_0); injection ea_ with ea_ en_ ec_; subst ea_; subst ec_; clear en_; have p320 : 0 ≤ (0 : Int) := (by omega); have q320 : 0 < ((rd_L2 t304 1).length : Int) := of_decide_eq_true (by first | (with_reducible assumption) | assumption); obtain ⟨ad320, e320, hx320_0⟩ := Kd.at_int (by repeat (first | (with_reducible exact HR319_0.out) | (with_reducible refine Kd.C_alloc ?_ _) | (with_reducible refine Kd.C_drewN ?_ _) | (with_reducible refine Kd.C_drew ?_) | exact HR319_0.out)) 0 p320 q320; cases e320; have qi320 : (0 < (rd_L2 t304 1).length) = True := eq_true (by omega); (try rw [show ((0 : Int)).toNat = 0 from rfl] at hx320_0); (try rw [Addr.add_zero'] at hx320_0); replace p320 := eq_true p320; replace q320 := eq_true q320; have p321 : 0 ≤ (0 : Int) := (by omega); have q321 : 0 < (t304.length : Int) := of_decide_eq_true (by first | (with_reducible assumption) | assumption); obtain ⟨ad321, A321_0, c321_0, e321, hx321_0, hl321_0, hi321_0⟩ := at_L2 (Kd.S_reads' HO306.out).2.2 0 p321 q321; obtain rfl : ad318 = ad321 := (by injection e321); obtain ⟨ce321, hce321, hMe321, hcc321⟩ := Kd.S_get HO306.out [] 0 p321 (by first | exact q321 | exact of_decide_eq_true (by first | (with_reducible assumption) | assumption) | (have e_ := (Kd.S_reads' HO306.out).1; omega)); obtain ⟨ve321_0, rfl, ge321_0⟩ := hMe321; have hv321_0 := hcc321 0 _ rfl; rw [Nat.add_zero, show ((Kd.slice 3 (Kd.int .i64))).sz = 1 from rfl, Nat.mul_one] at hv321_0; replace hv321_0 := Option.some.inj (hv321_0.symm.trans hx321_0); rw [hv321_0] at ge321_0; have HL321_0 := Aside0.mk (show Kd.R (Kd.int .i64) 3 _ _ _ _ (rd_L2 t304 0) from ge321_0); clear hv321_0 ge321_0; clear hcc321 hce321; have qi321 : (0 < t304.length) = True := eq_true (by omega); (try rw [show ((0 : Int)).toNat = 0 from rfl] at hx321_0); (try rw [Addr.add_zero'] at hx321_0); have HR321_0 := Aside0.mk hi321_0; have HC321_0 := Aside0.mk hl321_0; clear hi321_0 hl321_0; replace p321 := eq_true p321; replace q321 := eq_true q321; obtain ⟨Ao50, co50, eo50⟩ := Kd.S_slice HO309.out; subst eo50; have p322 : 0 ≤ (0 : Int) := (by omega); have q322 : 0 < (t307.length : Int) := of_decide_eq_true (by first | (with_reducible assumption) | assumption); obtain ⟨ad322, A322_0, c322_0, e322, hx322_0, hl322_0, hi322_0⟩ := at_L2 (Kd.S_reads' HO309.out).2.2 0 p322 q322; cases e322; obtain ⟨ce322, hce322, hMe322, hcc322⟩ := Kd.S_get HO309.out [] 0 p322 (by first | exact q322 | exact of_decide_eq_true (by first | (with_reducible assumption) | assumption) | (have e_ := (Kd.S_reads' HO309.out).1; omega)); obtain ⟨ve322_0, rfl, ge322_0⟩ := hMe322; have hv322_0 := hcc322 0 _ rfl; rw [Nat.add_zero, show ((Kd.slice 3 (Kd.int .i64))).sz = 1 from rfl, Nat.mul_one] at hv322_0; replace hv322_0 := Option.some.inj (hv322_0.symm.trans hx322_0); rw [hv322_0] at ge322_0; have HL322_0 := Aside0.mk (show Kd.R (Kd.int .i64) 3 _ _ _ _ (rd_L2 t307 0) from ge322_0); clear hv322_0 ge322_0; clear hcc322 hce322; have qi322 : (0 < t307.length) = True := eq_true (by omega); (try rw [show ((0 : Int)).toNat = 0 from rfl] at hx322_0); (try rw [Addr.add_zero'] at hx322_0); have HR322_0 := Aside0.mk hi322_0; have HC322_0 := Aside0.mk hl322_0; clear hi322_0 hl322_0; replace p322 := eq_true p322; replace q322 := eq_true q322; obtain ⟨Ao51, co51, eo51⟩ := Kd.R_slice HO315.out; subst eo51; have p323 : 0 ≤ (0 : Int) := (by omega); have q323 : 0 < (t313.length : Int) := of_decide_eq_true (by first | (with_reducible assumption) | assumption); obtain ⟨ad323, e323, hx323_0⟩ := Kd.at_int (Kd.R_reads' HO315.out).2.2 0 p323 q323; cases e323; have qi323 : (0 < t313.length) = True := eq_true (by omega); (try rw [show ((0 : Int)).toNat = 0 from rfl] at hx323_0); (try rw [Addr.add_zero'] at hx323_0); replace p323 := eq_true p323; replace q323 := eq_true q323; have hcz52_0 : w47.cell? ⟨gb300, 0, none⟩ = some (.string t286) := (blk_cell BK300.out 0).trans rfl; have hcz52_1 : w47.cell? ⟨gb300, 1, none⟩ = some (.slice Ao34 t287.length co34) := (blk_cell BK300.out 1).trans rfl; have hcz52_2 : w47.cell? ⟨gb300, 2, none⟩ = some (.string t290) := (blk_cell BK300.out 2).trans rfl; have hcz52_3 : w47.cell? ⟨gb300, 3, none⟩ = some (.slice Ao35 t291.length co35) := (blk_cell BK300.out 3).trans rfl; have hcz52_4 : w47.cell? ⟨gb300, 4, none⟩ = some (.slice Ao36 t294.length co36) := (blk_cell BK300.out 4).trans rfl; have hcz52_5 : w47.cell? ⟨gb300, 5, none⟩ = some (.slice Ao37 t297.length co37) := (blk_cell BK300.out 5).trans rfl; have hfz52_0 := blk_frozen BK300.out 0; have hfz52_1 := blk_frozen BK300.out 1; have hfz52_2 := blk_frozen BK300.out 2; have hfz52_3 := blk_frozen BK300.out 3; have hfz52_4 := blk_frozen BK300.out 4; have hfz52_5 := blk_frozen BK300.out 5) | (go_at_call 43; (with_reducible refine (dom_Is.calls t286 _ _ t287 t290 _ _ t291 _ _ t294 _ _ t297 0 3 true _ ?side1 ?side2 ?side3 ?side4 ?side5 ?side6 ?side7 ?side8 A24.out).mono ?_); (case side1 => repeat (first | exact (Kd.R_reads' HO289.out).2.2 | (with_reducible refine Kd.C_alloc ?_ _) | (with_reducible refine Kd.C_drewN ?_ _) | (with_reducible refine Kd.C_drew ?_))); (case side2 => exact (Kd.R_reads' HO289.out).2.1); (case side3 => repeat (first | exact (Kd.R_reads' HO293.out).2.2 | (with_reducible refine Kd.C_alloc ?_ _) | (with_reducible refine Kd.C_drewN ?_ _) | (with_reducible refine Kd.C_drew ?_))); (case side4 => exact (Kd.R_reads' HO293.out).2.1); (case side5 => repeat (first | exact (Kd.S_reads' HO296.out).2.2 | (with_reducible refine Kd.C_alloc ?_ _) | (with_reducible refine Kd.C_drewN ?_ _) | (with_reducible refine Kd.C_drew ?_))); (case side6 => exact (Kd.S_reads' HO296.out).2.1); (case side7 => repeat (first | exact (Kd.S_reads' HO299.out).2.2 | (with_reducible refine Kd.C_alloc ?_ _) | (with_reducible refine Kd.C_drewN ?_ _) | (with_reducible refine Kd.C_drew ?_))); (case side8 => exact (Kd.S_reads' HO299.out).2.1); rintro e w53 ⟨rfl, hb⟩; have n0_ := Aside0.mk (Kd.R_below (by (with_reducible repeat (first | apply Kd.R_alloc | apply Kd.R_drewN | apply Kd.R_drew)); exact HO289.out) hb); have n1_ := Aside0.mk (Kd.R_below (by (with_reducible repeat (first | apply Kd.R_alloc | apply Kd.R_drewN | apply Kd.R_drew)); exact HO293.out) hb); have n2_ := Aside0.mk (Kd.S_below (by (with_reducible repeat (first | apply Kd.S_alloc | apply Kd.S_drewN | apply Kd.S_drew)); exact HO296.out) hb); have n3_ := Aside0.mk (Kd.S_below (by (with_reducible repeat (first | apply Kd.S_alloc | apply Kd.S_drewN | apply Kd.S_drew)); exact HO299.out) hb); have n4_ := Aside0.mk (Kd.R_below (by (with_reducible repeat (first | apply Kd.R_alloc | apply Kd.R_drewN | apply Kd.R_drew)); exact HO303.out) hb); have n5_ := Aside0.mk (Kd.S_below (by (with_reducible repeat (first | apply Kd.S_alloc | apply Kd.S_drewN | apply Kd.S_drew)); exact HO306.out) hb); have n6_ := Aside0.mk (Kd.S_below (by (with_reducible repeat (first | apply Kd.S_alloc | apply Kd.S_drewN | apply Kd.S_drew)); exact HO309.out) hb); have n7_ := Aside0.mk (Kd.R_below (by (with_reducible repeat (first | apply Kd.R_alloc | apply Kd.R_drewN | apply Kd.R_drew)); exact HO312.out) hb); have n8_ := Aside0.mk (Kd.R_below (by (with_reducible repeat (first | apply Kd.R_alloc | apply Kd.R_drewN | apply Kd.R_drew)); exact HO315.out) hb); have n9_ := Aside0.mk (Kd.R_below (by (with_reducible repeat (first | apply Kd.R_alloc | apply Kd.R_drewN | apply Kd.R_drew)); exact HL318_0.out) hb); have n10_ := Aside0.mk (Kd.R_below (by (with_reducible repeat (first | apply Kd.R_alloc | apply Kd.R_drewN | apply Kd.R_drew)); exact HL319_0.out) hb); have n11_ := Aside0.mk (Kd.R_below (by (with_reducible repeat (first | apply Kd.R_alloc | apply Kd.R_drewN | apply Kd.R_drew)); exact HL321_0.out) hb); have n12_ := Aside0.mk (Kd.R_below (by (with_reducible repeat (first | apply Kd.R_alloc | apply Kd.R_drewN | apply Kd.R_drew)); exact HL322_0.out) hb); have n13_ := Aside0.mk (blk_below (g := gb300) (o := .cells #[.string t286, .slice Ao34 t287.length co34, .string t290, .slice Ao35 t291.length co35, .slice Ao36 t294.length co36, .slice Ao37 t297.length co37] 26 (0, 0)) (by (with_reducible repeat (first | refine blk_drewN ?_ _ | refine blk_drew ?_ | refine blk_alloc ?_ _)); exact BK300.out) hb); have n14_ := Aside0.mk (Kd.C_below (by repeat (first | (with_reducible exact HR318_0.out) | (with_reducible refine Kd.C_alloc ?_ _) | (with_reducible refine Kd.C_drewN ?_ _) | (with_reducible refine Kd.C_drew ?_) | exact HR318_0.out)) hb); have n15_ := Aside0.mk (Kd.C_below (by repeat (first | (with_reducible exact HR319_0.out) | (with_reducible refine Kd.C_alloc ?_ _) | (with_reducible refine Kd.C_drewN ?_ _) | (with_reducible refine Kd.C_drew ?_) | exact HR319_0.out)) hb); have n16_ := Aside0.mk (Kd.C_below (by repeat (first | (with_reducible exact HR321_0.out) | (with_reducible refine Kd.C_alloc ?_ _) | (with_reducible refine Kd.C_drewN ?_ _) | (with_reducible refine Kd.C_drew ?_) | exact HR321_0.out)) hb); have n17_ := Aside0.mk (Kd.C_below (by repeat (first | (with_reducible exact HR322_0.out) | (with_reducible refine Kd.C_alloc ?_ _) | (with_reducible refine Kd.C_drewN ?_ _) | (with_reducible refine Kd.C_drew ?_) | exact HR322_0.out)) hb); have n18_ := Aside0.mk (below_step (by repeat (first | (with_reducible first | exact HB.out | apply below_alloc | apply pw_below_drewN | apply below_drew1 | refine below_set ?_ GE300.out) | exact HB.out)) hb); clear HO289; clear HO293; clear HO296; clear HO299; clear HO303; clear HO306; clear HO309; clear HO312; clear HO315; clear HL318_0; clear HL319_0; clear HL321_0; clear HL322_0; clear BK300; clear HR318_0; clear HR319_0; clear HR321_0; clear HR322_0; clear HB; have HO289 := n0_; have HO293 := n1_; have HO296 := n2_; have HO299 := n3_; have HO303 := n4_; have HO306 := n5_; have HO309 := n6_; have HO312 := n7_; have HO315 := n8_; have HL318_0 := n9_; have HL319_0 := n10_; have HL321_0 := n11_; have HL322_0 := n12_; have BK300 := n13_; have HR318_0 := n14_; have HR319_0 := n15_; have HR321_0 := n16_; have HR322_0 := n17_; have HB := n18_; clear n0_ n1_ n2_ n3_ n4_ n5_ n6_ n7_ n8_ n9_ n10_ n11_ n12_ n13_ n14_ n15_ n16_ n17_ n18_; (try clear hb); (try clear hb2); (try clear hk); (try clear hi); have hcz54_0 : w53.cell? ⟨gb300, 0, none⟩ = some (.string t286) := (blk_cell BK300.out 0).trans rfl; have hcz54_1 : w53.cell? ⟨gb300, 1, none⟩ = some (.slice Ao34 t287.length co34) := (blk_cell BK300.out 1).trans rfl; have hcz54_2 : w53.cell? ⟨gb300, 2, none⟩ = some (.string t290) := (blk_cell BK300.out 2).trans rfl; have hcz54_3 : w53.cell? ⟨gb300, 3, none⟩ = some (.slice Ao35 t291.length co35) := (blk_cell BK300.out 3).trans rfl; have hcz54_4 : w53.cell? ⟨gb300, 4, none⟩ = some (.slice Ao36 t294.length co36) := (blk_cell BK300.out 4).trans rfl; have hcz54_5 : w53.cell? ⟨gb300, 5, none⟩ = some (.slice Ao37 t297.length co37) := (blk_cell BK300.out 5).trans rfl; have hfz54_0 := blk_frozen BK300.out 0; have hfz54_1 := blk_frozen BK300.out 1; have hfz54_2 := blk_frozen BK300.out 2; have hfz54_3 := blk_frozen BK300.out 3; have hfz54_4 := blk_frozen BK300.out 4; have hfz54_5 := blk_frozen BK300.out 5) | (go_at_call 43; (with_reducible refine (dom_Is.calls t286 _ _ t287 t290 _ _ t291 _ _ t294 _ _ t297 1 3 false _ ?side1 ?side2 ?side3 ?side4 ?side5 ?side6 ?side7 ?side8 A26.out).mono ?_); (case side1 => repeat (first | exact (Kd.R_reads' HO289.out).2.2 | (with_reducible refine Kd.C_alloc ?_ _) | (with_reducible refine Kd.C_drewN ?_ _) | (with_reducible refine Kd.C_drew ?_))); (case side2 => exact (Kd.R_reads' HO289.out).2.1); (case side3 => repeat (first | exact (Kd.R_reads' HO293.out).2.2 | (with_reducible refine Kd.C_alloc ?_ _) | (with_reducible refine Kd.C_drewN ?_ _) | (with_reducible refine Kd.C_drew ?_))); (case side4 => exact (Kd.R_reads' HO293.out).2.1); (case side5 => repeat (first | exact (Kd.S_reads' HO296.out).2.2 | (with_reducible refine Kd.C_alloc ?_ _) | (with_reducible refine Kd.C_drewN ?_ _) | (with_reducible refine Kd.C_drew ?_))); (case side6 => exact (Kd.S_reads' HO296.out).2.1); (case side7 => repeat (first | exact (Kd.S_reads' HO299.out).2.2 | (with_reducible refine Kd.C_alloc ?_ _) | (with_reducible refine Kd.C_drewN ?_ _) | (with_reducible refine Kd.C_drew ?_))); (case side8 => exact (Kd.S_reads' HO299.out).2.1); rintro e w55 ⟨rfl, hb⟩; have n0_ := Aside0.mk (Kd.R_below (by (with_reducible repeat (first | apply Kd.R_alloc | apply Kd.R_drewN | apply Kd.R_drew)); exact HO289.out) hb); have n1_ := Aside0.mk (Kd.R_below (by (with_reducible repeat (first | apply Kd.R_alloc | apply Kd.R_drewN | apply Kd.R_drew)); exact HO293.out) hb); have n2_ := Aside0.mk (Kd.S_below (by (with_reducible repeat (first | apply Kd.S_alloc | apply Kd.S_drewN | apply Kd.S_drew)); exact HO296.out) hb); have n3_ := Aside0.mk (Kd.S_below (by (with_reducible repeat (first | apply Kd.S_alloc | apply Kd.S_drewN | apply Kd.S_drew)); exact HO299.out) hb); have n4_ := Aside0.mk (Kd.R_below (by (with_reducible repeat (first | apply Kd.R_alloc | apply Kd.R_drewN | apply Kd.R_drew)); exact HO303.out) hb); have n5_ := Aside0.mk (Kd.S_below (by (with_reducible repeat (first | apply Kd.S_alloc | apply Kd.S_drewN | apply Kd.S_drew)); exact HO306.out) hb); have n6_ := Aside0.mk (Kd.S_below (by (with_reducible repeat (first | apply Kd.S_alloc | apply Kd.S_drewN | apply Kd.S_drew)); exact HO309.out) hb); have n7_ := Aside0.mk (Kd.R_below (by (with_reducible repeat (first | apply Kd.R_alloc | apply Kd.R_drewN | apply Kd.R_drew)); exact HO312.out) hb); have n8_ := Aside0.mk (Kd.R_below (by (with_reducible repeat (first | apply Kd.R_alloc | apply Kd.R_drewN | apply Kd.R_drew)); exact HO315.out) hb); have n9_ := Aside0.mk (Kd.R_below (by (with_reducible repeat (first | apply Kd.R_alloc | apply Kd.R_drewN | apply Kd.R_drew)); exact HL318_0.out) hb); have n10_ := Aside0.mk (Kd.R_below (by (with_reducible repeat (first | apply Kd.R_alloc | apply Kd.R_drewN | apply Kd.R_drew)); exact HL319_0.out) hb); have n11_ := Aside0.mk (Kd.R_below (by (with_reducible repeat (first | apply Kd.R_alloc | apply Kd.R_drewN | apply Kd.R_drew)); exact HL321_0.out) hb); have n12_ := Aside0.mk (Kd.R_below (by (with_reducible repeat (first | apply Kd.R_alloc | apply Kd.R_drewN | apply Kd.R_drew)); exact HL322_0.out) hb); have n13_ := Aside0.mk (blk_below (g := gb300) (o := .cells #[.string t286, .slice Ao34 t287.length co34, .string t290, .slice Ao35 t291.length co35, .slice Ao36 t294.length co36, .slice Ao37 t297.length co37] 26 (0, 0)) (by (with_reducible repeat (first | refine blk_drewN ?_ _ | refine blk_drew ?_ | refine blk_alloc ?_ _)); exact BK300.out) hb); have n14_ := Aside0.mk (Kd.C_below (by repeat (first | (with_reducible exact HR318_0.out) | (with_reducible refine Kd.C_alloc ?_ _) | (with_reducible refine Kd.C_drewN ?_ _) | (with_reducible refine Kd.C_drew ?_) | exact HR318_0.out)) hb); have n15_ := Aside0.mk (Kd.C_below (by repeat (first | (with_reducible exact HR319_0.out) | (with_reducible refine Kd.C_alloc ?_ _) | (with_reducible refine Kd.C_drewN ?_ _) | (with_reducible refine Kd.C_drew ?_) | exact HR319_0.out)) hb); have n16_ := Aside0.mk (Kd.C_below (by repeat (first | (with_reducible exact HR321_0.out) | (with_reducible refine Kd.C_alloc ?_ _) | (with_reducible refine Kd.C_drewN ?_ _) | (with_reducible refine Kd.C_drew ?_) | exact HR321_0.out)) hb); have n17_ := Aside0.mk (Kd.C_below (by repeat (first | (with_reducible exact HR322_0.out) | (with_reducible refine Kd.C_alloc ?_ _) | (with_reducible refine Kd.C_drewN ?_ _) | (with_reducible refine Kd.C_drew ?_) | exact HR322_0.out)) hb); have n18_ := Aside0.mk (below_step (by repeat (first | (with_reducible first | exact HB.out | apply below_alloc | apply pw_below_drewN | apply below_drew1 | refine below_set ?_ GE300.out) | exact HB.out)) hb); clear HO289; clear HO293; clear HO296; clear HO299; clear HO303; clear HO306; clear HO309; clear HO312; clear HO315; clear HL318_0; clear HL319_0; clear HL321_0; clear HL322_0; clear BK300; clear HR318_0; clear HR319_0; clear HR321_0; clear HR322_0; clear HB; have HO289 := n0_; have HO293 := n1_; have HO296 := n2_; have HO299 := n3_; have HO303 := n4_; have HO306 := n5_; have HO309 := n6_; have HO312 := n7_; have HO315 := n8_; have HL318_0 := n9_; have HL319_0 := n10_; have HL321_0 := n11_; have HL322_0 := n12_; have BK300 := n13_; have HR318_0 := n14_; have HR319_0 := n15_; have HR321_0 := n16_; have HR322_0 := n17_; have HB := n18_; clear n0_ n1_ n2_ n3_ n4_ n5_ n6_ n7_ n8_ n9_ n10_ n11_ n12_ n13_ n14_ n15_ n16_ n17_ n18_; (try clear hb); (try clear hb2); (try clear hk); (try clear hi); have hcz56_0 : w55.cell? ⟨gb300, 0, none⟩ = some (.string t286) := (blk_cell BK300.out 0).trans rfl; have hcz56_1 : w55.cell? ⟨gb300, 1, none⟩ = some (.slice Ao34 t287.length co34) := (blk_cell BK300.out 1).trans rfl; have hcz56_2 : w55.cell? ⟨gb300, 2, none⟩ = some (.string t290) := (blk_cell BK300.out 2).trans rfl; have hcz56_3 : w55.cell? ⟨gb300, 3, none⟩ = some (.slice Ao35 t291.length co35) := (blk_cell BK300.out 3).trans rfl; have hcz56_4 : w55.cell? ⟨gb300, 4, none⟩ = some (.slice Ao36 t294.length co36) := (blk_cell BK300.out 4).trans rfl; have hcz56_5 : w55.cell? ⟨gb300, 5, none⟩ = some (.slice Ao37 t297.length co37) := (blk_cell BK300.out 5).trans rfl; have hfz56_0 := blk_frozen BK300.out 0; have hfz56_1 := blk_frozen BK300.out 1; have hfz56_2 := blk_frozen BK300.out 2; have hfz56_3 := blk_frozen BK300.out 3; have hfz56_4 := blk_frozen BK300.out 4; have hfz56_5 := blk_frozen BK300.out 5) | (go_at_call 43; (with_reducible refine (dom_Is.calls t286 _ _ t287 t290 _ _ t291 _ _ t294 _ _ t297 2 2 true _ ?side1 ?side2 ?side3 ?side4 ?side5 ?side6 ?side7 ?side8 A28.out).mono ?_); (case side1 => repeat (first | exact (Kd.R_reads' HO289.out).2.2 | (with_reducible refine Kd.C_alloc ?_ _) | (with_reducible refine Kd.C_drewN ?_ _) | (with_reducible refine Kd.C_drew ?_))); (case side2 => exact (Kd.R_reads' HO289.out).2.1); (case side3 => repeat (first | exact (Kd.R_reads' HO293.out).2.2 | (with_reducible refine Kd.C_alloc ?_ _) | (with_reducible refine Kd.C_drewN ?_ _) | (with_reducible refine Kd.C_drew ?_))); (case side4 => exact (Kd.R_reads' HO293.out).2.1); (case side5 => repeat (first | exact (Kd.S_reads' HO296.out).2.2 | (with_reducible refine Kd.C_alloc ?_ _) | (with_reducible refine Kd.C_drewN ?_ _) | (with_reducible refine Kd.C_drew ?_))); (case side6 => exact (Kd.S_reads' HO296.out).2.1); (case side7 => repeat (first | exact (Kd.S_reads' HO299.out).2.2 | (with_reducible refine Kd.C_alloc ?_ _) | (with_reducible refine Kd.C_drewN ?_ _) | (with_reducible refine Kd.C_drew ?_))); (case side8 => exact (Kd.S_reads' HO299.out).2.1); rintro e w57 ⟨rfl, hb⟩; have n0_ := Aside0.mk (Kd.R_below (by (with_reducible repeat (first | apply Kd.R_alloc | apply Kd.R_drewN | apply Kd.R_drew)); exact HO289.out) hb); have n1_ := Aside0.mk (Kd.R_below (by (with_reducible repeat (first | apply Kd.R_alloc | apply Kd.R_drewN | apply Kd.R_drew)); exact HO293.out) hb); have n2_ := Aside0.mk (Kd.S_below (by (with_reducible repeat (first | apply Kd.S_alloc | apply Kd.S_drewN | apply Kd.S_drew)); exact HO296.out) hb); have n3_ := Aside0.mk (Kd.S_below (by (with_reducible repeat (first | apply Kd.S_alloc | apply Kd.S_drewN | apply Kd.S_drew)); exact HO299.out) hb); have n4_ := Aside0.mk (Kd.R_below (by (with_reducible repeat (first | apply Kd.R_alloc | apply Kd.R_drewN | apply Kd.R_drew)); exact HO303.out) hb); have n5_ := Aside0.mk (Kd.S_below (by (with_reducible repeat (first | apply Kd.S_alloc | apply Kd.S_drewN | apply Kd.S_drew)); exact HO306.out) hb); have n6_ := Aside0.mk (Kd.S_below (by (with_reducible repeat (first | apply Kd.S_alloc | apply Kd.S_drewN | apply Kd.S_drew)); exact HO309.out) hb); have n7_ := Aside0.mk (Kd.R_below (by (with_reducible repeat (first | apply Kd.R_alloc | apply Kd.R_drewN | apply Kd.R_drew)); exact HO312.out) hb); have n8_ := Aside0.mk (Kd.R_below (by (with_reducible repeat (first | apply Kd.R_alloc | apply Kd.R_drewN | apply Kd.R_drew)); exact HO315.out) hb); have n9_ := Aside0.mk (Kd.R_below (by (with_reducible repeat (first | apply Kd.R_alloc | apply Kd.R_drewN | apply Kd.R_drew)); exact HL318_0.out) hb); have n10_ := Aside0.mk (Kd.R_below (by (with_reducible repeat (first | apply Kd.R_alloc | apply Kd.R_drewN | apply Kd.R_drew)); exact HL319_0.out) hb); have n11_ := Aside0.mk (Kd.R_below (by (with_reducible repeat (first | apply Kd.R_alloc | apply Kd.R_drewN | apply Kd.R_drew)); exact HL321_0.out) hb); have n12_ := Aside0.mk (Kd.R_below (by (with_reducible repeat (first | apply Kd.R_alloc | apply Kd.R_drewN | apply Kd.R_drew)); exact HL322_0.out) hb); have n13_ := Aside0.mk (blk_below (g := gb300) (o := .cells #[.string t286, .slice Ao34 t287.length co34, .string t290, .slice Ao35 t291.length co35, .slice Ao36 t294.length co36, .slice Ao37 t297.length co37] 26 (0, 0)) (by (with_reducible repeat (first | refine blk_drewN ?_ _ | refine blk_drew ?_ | refine blk_alloc ?_ _)); exact BK300.out) hb); have n14_ := Aside0.mk (Kd.C_below (by repeat (first | (with_reducible exact HR318_0.out) | (with_reducible refine Kd.C_alloc ?_ _) | (with_reducible refine Kd.C_drewN ?_ _) | (with_reducible refine Kd.C_drew ?_) | exact HR318_0.out)) hb); have n15_ := Aside0.mk (Kd.C_below (by repeat (first | (with_reducible exact HR319_0.out) | (with_reducible refine Kd.C_alloc ?_ _) | (with_reducible refine Kd.C_drewN ?_ _) | (with_reducible refine Kd.C_drew ?_) | exact HR319_0.out)) hb); have n16_ := Aside0.mk (Kd.C_below (by repeat (first | (with_reducible exact HR321_0.out) | (with_reducible refine Kd.C_alloc ?_ _) | (with_reducible refine Kd.C_drewN ?_ _) | (with_reducible refine Kd.C_drew ?_) | exact HR321_0.out)) hb); have n17_ := Aside0.mk (Kd.C_below (by repeat (first | (with_reducible exact HR322_0.out) | (with_reducible refine Kd.C_alloc ?_ _) | (with_reducible refine Kd.C_drewN ?_ _) | (with_reducible refine Kd.C_drew ?_) | exact HR322_0.out)) hb); have n18_ := Aside0.mk (below_step (by repeat (first | (with_reducible first | exact HB.out | apply below_alloc | apply pw_below_drewN | apply below_drew1 | refine below_set ?_ GE300.out) | exact HB.out)) hb); clear HO289; clear HO293; clear HO296; clear HO299; clear HO303; clear HO306; clear HO309; clear HO312; clear HO315; clear HL318_0; clear HL319_0; clear HL321_0; clear HL322_0; clear BK300; clear HR318_0; clear HR319_0; clear HR321_0; clear HR322_0; clear HB; have HO289 := n0_; have HO293 := n1_; have HO296 := n2_; have HO299 := n3_; have HO303 := n4_; have HO306 := n5_; have HO309 := n6_; have HO312 := n7_; have HO315 := n8_; have HL318_0 := n9_; have HL319_0 := n10_; have HL321_0 := n11_; have HL322_0 := n12_; have BK300 := n13_; have HR318_0 := n14_; have HR319_0 := n15_; have HR321_0 := n16_; have HR322_0 := n17_; have HB := n18_; clear n0_ n1_ n2_ n3_ n4_ n5_ n6_ n7_ n8_ n9_ n10_ n11_ n12_ n13_ n14_ n15_ n16_ n17_ n18_; (try clear hb); (try clear hb2); (try clear hk); (try clear hi); have hcz58_0 : w57.cell? ⟨gb300, 0, none⟩ = some (.string t286) := (blk_cell BK300.out 0).trans rfl; have hcz58_1 : w57.cell? ⟨gb300, 1, none⟩ = some (.slice Ao34 t287.length co34) := (blk_cell BK300.out 1).trans rfl; have hcz58_2 : w57.cell? ⟨gb300, 2, none⟩ = some (.string t290) := (blk_cell BK300.out 2).trans rfl; have hcz58_3 : w57.cell? ⟨gb300, 3, none⟩ = some (.slice Ao35 t291.length co35) := (blk_cell BK300.out 3).trans rfl; have hcz58_4 : w57.cell? ⟨gb300, 4, none⟩ = some (.slice Ao36 t294.length co36) := (blk_cell BK300.out 4).trans rfl; have hcz58_5 : w57.cell? ⟨gb300, 5, none⟩ = some (.slice Ao37 t297.length co37) := (blk_cell BK300.out 5).trans rfl; have hfz58_0 := blk_frozen BK300.out 0; have hfz58_1 := blk_frozen BK300.out 1; have hfz58_2 := blk_frozen BK300.out 2; have hfz58_3 := blk_frozen BK300.out 3; have hfz58_4 := blk_frozen BK300.out 4; have hfz58_5 := blk_frozen BK300.out 5) | (go_at_call 43; (with_reducible refine (dom_Is.calls t286 _ _ t287 t290 _ _ t291 _ _ t294 _ _ t297 4 4 t327 _ ?side1 ?side2 ?side3 ?side4 ?side5 ?side6 ?side7 ?side8 A30.out).mono ?_); (case side1 => repeat (first | exact (Kd.R_reads' HO289.out).2.2 | (with_reducible refine Kd.C_alloc ?_ _) | (with_reducible refine Kd.C_drewN ?_ _) | (with_reducible refine Kd.C_drew ?_))); (case side2 => exact (Kd.R_reads' HO289.out).2.1); (case side3 => repeat (first | exact (Kd.R_reads' HO293.out).2.2 | (with_reducible refine Kd.C_alloc ?_ _) | (with_reducible refine Kd.C_drewN ?_ _) | (with_reducible refine Kd.C_drew ?_))); (case side4 => exact (Kd.R_reads' HO293.out).2.1); (case side5 => repeat (first | exact (Kd.S_reads' HO296.out).2.2 | (with_reducible refine Kd.C_alloc ?_ _) | (with_reducible refine Kd.C_drewN ?_ _) | (with_reducible refine Kd.C_drew ?_))); (case side6 => exact (Kd.S_reads' HO296.out).2.1); (case side7 => repeat (first | exact (Kd.S_reads' HO299.out).2.2 | (with_reducible refine Kd.C_alloc ?_ _) | (with_reducible refine Kd.C_drewN ?_ _) | (with_reducible refine Kd.C_drew ?_))); (case side8 => exact (Kd.S_reads' HO299.out).2.1); rintro e w59 ⟨rfl, hb⟩; have n0_ := Aside0.mk (Kd.R_below (by (with_reducible repeat (first | apply Kd.R_alloc | apply Kd.R_drewN | apply Kd.R_drew)); exact HO289.out) hb); have n1_ := Aside0.mk (Kd.R_below (by (with_reducible repeat (first | apply Kd.R_alloc | apply Kd.R_drewN | apply Kd.R_drew)); exact HO293.out) hb); have n2_ := Aside0.mk (Kd.S_below (by (with_reducible repeat (first | apply Kd.S_alloc | apply Kd.S_drewN | apply Kd.S_drew)); exact HO296.out) hb); have n3_ := Aside0.mk (Kd.S_below (by (with_reducible repeat (first | apply Kd.S_alloc | apply Kd.S_drewN | apply Kd.S_drew)); exact HO299.out) hb); have n4_ := Aside0.mk (Kd.R_below (by (with_reducible repeat (first | apply Kd.R_alloc | apply Kd.R_drewN | apply Kd.R_drew)); exact HO303.out) hb); have n5_ := Aside0.mk (Kd.S_below (by (with_reducible repeat (first | apply Kd.S_alloc | apply Kd.S_drewN | apply Kd.S_drew)); exact HO306.out) hb); have n6_ := Aside0.mk (Kd.S_below (by (with_reducible repeat (first | apply Kd.S_alloc | apply Kd.S_drewN | apply Kd.S_drew)); exact HO309.out) hb); have n7_ := Aside0.mk (Kd.R_below (by (with_reducible repeat (first | apply Kd.R_alloc | apply Kd.R_drewN | apply Kd.R_drew)); exact HO312.out) hb); have n8_ := Aside0.mk (Kd.R_below (by (with_reducible repeat (first | apply Kd.R_alloc | apply Kd.R_drewN | apply Kd.R_drew)); exact HO315.out) hb); have n9_ := Aside0.mk (Kd.R_below (by (with_reducible repeat (first | apply Kd.R_alloc | apply Kd.R_drewN | apply Kd.R_drew)); exact HL318_0.out) hb); have n10_ := Aside0.mk (Kd.R_below (by (with_reducible repeat (first | apply Kd.R_alloc | apply Kd.R_drewN | apply Kd.R_drew)); exact HL319_0.out) hb); have n11_ := Aside0.mk (Kd.R_below (by (with_reducible repeat (first | apply Kd.R_alloc | apply Kd.R_drewN | apply Kd.R_drew)); exact HL321_0.out) hb); have n12_ := Aside0.mk (Kd.R_below (by (with_reducible repeat (first | apply Kd.R_alloc | apply Kd.R_drewN | apply Kd.R_drew)); exact HL322_0.out) hb); have n13_ := Aside0.mk (blk_below (g := gb300) (o := .cells #[.string t286, .slice Ao34 t287.length co34, .string t290, .slice Ao35 t291.length co35, .slice Ao36 t294.length co36, .slice Ao37 t297.length co37] 26 (0, 0)) (by (with_reducible repeat (first | refine blk_drewN ?_ _ | refine blk_drew ?_ | refine blk_alloc ?_ _)); exact BK300.out) hb); have n14_ := Aside0.mk (Kd.C_below (by repeat (first | (with_reducible exact HR318_0.out) | (with_reducible refine Kd.C_alloc ?_ _) | (with_reducible refine Kd.C_drewN ?_ _) | (with_reducible refine Kd.C_drew ?_) | exact HR318_0.out)) hb); have n15_ := Aside0.mk (Kd.C_below (by repeat (first | (with_reducible exact HR319_0.out) | (with_reducible refine Kd.C_alloc ?_ _) | (with_reducible refine Kd.C_drewN ?_ _) | (with_reducible refine Kd.C_drew ?_) | exact HR319_0.out)) hb); have n16_ := Aside0.mk (Kd.C_below (by repeat (first | (with_reducible exact HR321_0.out) | (with_reducible refine Kd.C_alloc ?_ _) | (with_reducible refine Kd.C_drewN ?_ _) | (with_reducible refine Kd.C_drew ?_) | exact HR321_0.out)) hb); have n17_ := Aside0.mk (Kd.C_below (by repeat (first | (with_reducible exact HR322_0.out) | (with_reducible refine Kd.C_alloc ?_ _) | (with_reducible refine Kd.C_drewN ?_ _) | (with_reducible refine Kd.C_drew ?_) | exact HR322_0.out)) hb); have n18_ := Aside0.mk (below_step (by repeat (first | (with_reducible first | exact HB.out | apply below_alloc | apply pw_below_drewN | apply below_drew1 | refine below_set ?_ GE300.out) | exact HB.out)) hb); clear HO289; clear HO293; clear HO296; clear HO299; clear HO303; clear HO306; clear HO309; clear HO312; clear HO315; clear HL318_0; clear HL319_0; clear HL321_0; clear HL322_0; clear BK300; clear HR318_0; clear HR319_0; clear HR321_0; clear HR322_0; clear HB; have HO289 := n0_; have HO293 := n1_; have HO296 := n2_; have HO299 := n3_; have HO303 := n4_; have HO306 := n5_; have HO309 := n6_; have HO312 := n7_; have HO315 := n8_; have HL318_0 := n9_; have HL319_0 := n10_; have HL321_0 := n11_; have HL322_0 := n12_; have BK300 := n13_; have HR318_0 := n14_; have HR319_0 := n15_; have HR321_0 := n16_; have HR322_0 := n17_; have HB := n18_; clear n0_ n1_ n2_ n3_ n4_ n5_ n6_ n7_ n8_ n9_ n10_ n11_ n12_ n13_ n14_ n15_ n16_ n17_ n18_; (try clear hb); (try clear hb2); (try clear hk); (try clear hi)))
                      go_ret
                      exact ⟨by first | rfl | (simp [errW_none, errW_some] <;> rfl) | (simp [*, errW_none, errW_some] <;> rfl), by repeat (first | (with_reducible first | exact HB.out | apply below_alloc | apply pw_below_drewN | apply below_drew1 | refine below_set ?_ GE300.out) | exact HB.out)⟩
                     ·replace c29 := Bool.eq_false_iff.mpr c29
                      subst c29
                      have H1 : (none) = some r := by rw [if_neg (show ¬ (false = true) by decide)] at H; exact H
                      clear H
                      have H := H1
                      clear H1
                      exact absurd H (by simp)
                   ·replace c25 := Bool.eq_false_iff.mpr c25
                    subst c25
                    have H1 : (none) = some r := by rw [if_neg (show ¬ (false = true) by decide)] at H; exact H
                    clear H
                    have H := H1
                    clear H1
                    exact absurd H (by simp)
                  ·rw [if_neg c23] at H
                   exact absurd H (by simp)
                 ·rw [if_neg c22] at H
                  exact absurd H (by simp)
                ·rw [if_neg c21] at H
                 exact absurd H (by simp)
               ·rw [if_neg c20] at H
                exact absurd H (by simp)
              ·rw [if_neg c19] at H
               exact absurd H (by simp)
             ·rw [if_neg c18] at H
              exact absurd H (by simp)
            ·rw [if_neg c17] at H
             exact absurd H (by simp)
           ·rw [if_neg c16] at H
            exact absurd H (by simp)
          ·rw [if_neg c15] at H
           exact absurd H (by simp)
         ·rw [if_neg c14] at H
          exact absurd H (by simp)
        ·rw [if_neg c13] at H
         exact absurd H (by simp)
       ·rw [if_neg c12] at H
        exact absurd H (by simp)
      ·rw [if_neg c11] at H
       exact absurd H (by simp)
     ·rw [if_neg c10] at H
      exact absurd H (by simp)
    ·rw [if_neg c9] at H
     exact absurd H (by simp)
   ·rw [if_neg c8] at H
    exact absurd H (by simp)
  ·rw [if_neg c7] at H
   exact absurd H (by simp)
 ·rw [if_neg c6] at H
  exact absurd H (by simp)

end Go.Proofs.Ytclhjalgflebfaa.Q

namespace Go.Proofs.Ytclhjalgflebfaa.Q
open Go.RowKit Go.Proofs.YtclhjalgflebfaaW.PrintWords Go.Proofs.YtclhjalgflebfaaW.PrintLast Go.Proofs.YtclhjalgflebfaaW.PrintMore
attribute [local go_sem] max2_int min2_int max_two min_two max_three min_three max_four min_four   -- for this text's walks alone
set_option linter.unusedVariables false
set_option linter.unusedSimpArgs false

/-! ### truantlaw10_wide: function 39 -/
def truantlaw10_wide.f (a0_0 : ByteArray) (l0_1 : List ByteArray) (a0_2 : ByteArray) (l0_3 : List ByteArray) (l0_4 : List (S58)) (l0_5 : List (S40)) : Option (Bool) := some (decide ((l0_5.length : Int) > 30))
set_option maxHeartbeats 8000000 in
set_option maxRecDepth 100000 in
theorem truantlaw10_wide.calls (a0_0 : ByteArray) (A0_1 : Option Addr) (c0_1 : Nat) (l0_1 : List ByteArray) (a0_2 : ByteArray) (A0_3 : Option Addr) (c0_3 : Nat) (l0_3 : List ByteArray) (A0_4 : Option Addr) (c0_4 : Nat) (l0_4 : List (S58)) (A0_5 : Option Addr) (c0_5 : Nat) (l0_5 : List (S40)) (r : Bool) (w : World) (hr0_1 : Kd.C Kd.string w A0_1 l0_1.length l0_1) (hc0_1 : l0_1.length ≤ c0_1) (hr0_3 : Kd.C Kd.string w A0_3 l0_3.length l0_3) (hc0_3 : l0_3.length ≤ c0_3) (hr0_4 : Kd.C k58 w A0_4 l0_4.length l0_4) (hc0_4 : l0_4.length ≤ c0_4) (hr0_5 : Kd.C k40 w A0_5 l0_5.length l0_5) (hc0_5 : l0_5.length ≤ c0_5) (h : truantlaw10_wide.f a0_0 l0_1 a0_2 l0_3 l0_4 l0_5 = some r) :
  Calls Try.prog 39 #[.agg #[.string a0_0, .slice A0_1 l0_1.length c0_1, .string a0_2, .slice A0_3 l0_3.length c0_3, .slice A0_4 l0_4.length c0_4, .slice A0_5 l0_5.length c0_5]] w fun e w' => e = .returned (.bool r) ∧ Below w.heap.size w w' := by
 have hu26 := Try.underlying26
 have HR0_1 := Aside0.mk hr0_1
 have HC0_1 := Aside0.mk hc0_1
 clear hr0_1 hc0_1
 have HR0_3 := Aside0.mk hr0_3
 have HC0_3 := Aside0.mk hc0_3
 clear hr0_3 hc0_3
 have HR0_4 := Aside0.mk hr0_4
 have HC0_4 := Aside0.mk hc0_4
 clear hr0_4 hc0_4
 have HR0_5 := Aside0.mk hr0_5
 have HC0_5 := Aside0.mk hc0_5
 clear hr0_5 hc0_5
 have HB := Aside0.mk (Below.refl w.heap.size w)
 have H : (some (decide ((l0_5.length : Int) > 30))) = some r := h
 clear h
 obtain rfl := Option.some.inj H
 go_enter Try.func39, Try.ntmps39
 go_wp2_with (first | ((with_reducible refine gate_dst (N := 1) rfl ?_); refine box_event ?hg (N := 1) ?hd (cs := #[.string a0_0, .slice A0_1 l0_1.length c0_1, .string a0_2, .slice A0_3 l0_3.length c0_3, .slice A0_4 l0_4.length c0_4, .slice A0_5 l0_5.length c0_5]) (t := 26) ?hr ?_; (case hd => rfl); (case hg => rfl); (case hr => first | (go_simp; done) | (go_simp; rfl)); intro gb328 hg w2 hbox hb; have n0_ := Aside0.mk (below_step (by repeat (first | (with_reducible first | exact HB.out | apply below_alloc | apply pw_below_drewN | apply below_drew1) | exact HB.out)) hb); have n1_ := Aside0.mk (hbox); have n2_ := Aside0.mk ((by rw [hg]; exact (below_size (by repeat (first | (with_reducible first | exact HB.out | apply below_alloc | apply pw_below_drewN | apply below_drew1) | exact HB.out))) : w.heap.size ≤ gb328)); have n3_ := Aside0.mk ((by rw [hg]; exact (below_size (by repeat (first | (with_reducible first | exact HB.out | apply below_alloc | apply pw_below_drewN | apply below_drew1) | exact HB.out))) : w.heap.size ≤ gb328)); clear HB; have HB := n0_; have BK328 := n1_; have GW328 := n2_; have GE328 := n3_; clear n0_ n1_ n2_ n3_; clear hb hbox hg; have hcz3_0 : w2.cell? ⟨gb328, 0, none⟩ = some (.string a0_0) := (blk_cell BK328.out 0).trans rfl; have hcz3_1 : w2.cell? ⟨gb328, 1, none⟩ = some (.slice A0_1 l0_1.length c0_1) := (blk_cell BK328.out 1).trans rfl; have hcz3_2 : w2.cell? ⟨gb328, 2, none⟩ = some (.string a0_2) := (blk_cell BK328.out 2).trans rfl; have hcz3_3 : w2.cell? ⟨gb328, 3, none⟩ = some (.slice A0_3 l0_3.length c0_3) := (blk_cell BK328.out 3).trans rfl; have hcz3_4 : w2.cell? ⟨gb328, 4, none⟩ = some (.slice A0_4 l0_4.length c0_4) := (blk_cell BK328.out 4).trans rfl; have hcz3_5 : w2.cell? ⟨gb328, 5, none⟩ = some (.slice A0_5 l0_5.length c0_5) := (blk_cell BK328.out 5).trans rfl; have hfz3_0 := blk_frozen BK328.out 0; have hfz3_1 := blk_frozen BK328.out 1; have hfz3_2 := blk_frozen BK328.out 2; have hfz3_3 := blk_frozen BK328.out 3; have hfz3_4 := blk_frozen BK328.out 4; have hfz3_5 := blk_frozen BK328.out 5))
 go_ret
 exact ⟨by first | rfl | (simp [errW_none, errW_some] <;> rfl) | (simp [*, errW_none, errW_some] <;> rfl), by repeat (first | (with_reducible first | exact HB.out | apply below_alloc | apply pw_below_drewN | apply below_drew1 | refine below_set ?_ GE328.out) | exact HB.out)⟩

end Go.Proofs.Ytclhjalgflebfaa.Q

