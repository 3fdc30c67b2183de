/- What the row of NumTexts rests on, part 1: contracts of the functions that it reaches, and the plain law. -/
import Derived.Test.YtcmppjonpmgncaaDoorJNumTexts0
/- The plain law of NumTexts: by hand. -/

namespace Go.Proofs.YtcmppjonpmgncaaDoor.Q
open Go.RowKit Go.Proofs.YtcmppjonpmgncaaDoorW.PrintWords Go.Proofs.YtcmppjonpmgncaaDoorW.PrintLast Go.Proofs.YtcmppjonpmgncaaDoorW.PrintMore
set_option linter.unusedVariables false
set_option linter.unusedSimpArgs false
theorem trimP_tl (s : ByteArray) : (trimP s).toList = if s.toList.head? = some 45 then s.toList.tail else s.toList := by
 rw [Lib.toList_data, trimP_data, Lib.toList_data]
theorem bt_head {s : ByteArray} {a : UInt8} {r : List UInt8} (h : s.toList = a :: r) : bt s 0 = (a.toNat : Int) := by
 have hl : 0 < s.size := by rw [← tl_len, h]; simp
 have := bt_tl s 0 hl
 rw [show ((0 : Nat) : Int) = 0 from rfl] at this
 rw [this]
 congr 2
 simp [h]
/-- What is said behind the sign: of s, and of d, which stands behind it. -/
theorem p_rest (s d : ByteArray) (hz : d.size ≤ 100) (hs : s.toList = [48] → d.toList = [48]) (hsd : d.toList = [48] → s.toList ≠ [48] → s.toList = [45, 48]) (hm0 : s.toList = [45, 48] → d.toList = [48]) :
  Ev (fun k => truantref01_Parse.j1 k s d) (if isDigL d.toList = false ∨ s.toList = [45, 48] then (0, 1) else (if 19 < d.size then (0, 2) else endN s d (dval 0 d.toList))) := by
 refine Ev.step (fun k => rfl) ?_
 cases hd : d.toList with
 | nil =>
  have h0 : (d.size : Int) = 0 := by rw [← tl_len, hd]; rfl
  rw [if_pos (.inl rfl)]
  refine Ev.pos h0 ?_
  exact Ev.step (f := fun _ => some (0, 1)) (fun k => by simp [truantref01_Parse.j2]) (Ev.now _)
 | cons a r =>
  have h0 : ¬ (d.size : Int) = 0 := by rw [← tl_len, hd, List.length_cons]; omega
  refine Ev.neg h0 ?_
  refine Ev.pos (by omega) ?_
  have hb := bt_head hd
  -- the digits are asked, from here
  have dig : (isDigL (a :: r) = true ↔ (∀ c ∈ a :: r, IsDig c) ∧ (a ≠ 48 ∨ a :: r = [48])) := by rw [isDig_iff]; simp
  have go : s.toList ≠ [45, 48] → (a ≠ 48 ∨ a :: r = [48]) → Ev (fun k => truantref01_Parse.j2 k s d false) (if isDigL (a :: r) = false ∨ s.toList = [45, 48] then (0, 1) else (if 19 < d.size then (0, 2) else endN s d (dval 0 (a :: r)))) := by
   intro hm hh
   refine Ev.step (f := fun k => truantref01_Parse.l0 k s d 0) (fun k => by simp [truantref01_Parse.j2]) ?_
   have := p_digits s d hz d.size 0 (by omega) (fun j _ hj => absurd hj (by omega))
   rw [hd] at this
   refine Ev.eq this ?_
   by_cases ha : ∀ c ∈ a :: r, IsDig c
   ·have : isDigL (a :: r) = true := dig.mpr ⟨ha, hh⟩
    rw [if_pos ha, if_neg (show ¬ (isDigL (a :: r) = false ∨ s.toList = [45, 48]) by simp [this, hm])]
   ·have : isDigL (a :: r) = false := by
     cases h : isDigL (a :: r) with
     | false => rfl
     | true => exact absurd (dig.mp h).1 ha
    rw [if_neg ha, if_pos (.inl this)]
  have stop : (isDigL (a :: r) = false ∨ s.toList = [45, 48]) → Ev (fun k => truantref01_Parse.j2 k s d true) (if isDigL (a :: r) = false ∨ s.toList = [45, 48] then (0, 1) else (if 19 < d.size then (0, 2) else endN s d (dval 0 (a :: r)))) := by
   intro h
   rw [if_pos h]
   exact Ev.step (f := fun _ => some (0, 1)) (fun k => by simp [truantref01_Parse.j2]) (Ev.now _)
  by_cases h48 : a = 48
  ·subst h48
   refine Ev.pos (by rw [hb]; rfl) ?_
   by_cases hs1 : s.toList = [48]
   ·have hd1 : (48 : UInt8) :: r = [48] := by rw [← hd]; exact hs hs1
    rw [show (s.toList != ([48] : List UInt8)) = false by simpa using hs1]
    exact go (by rw [hs1]; decide) (.inr hd1)
   ·rw [show (s.toList != ([48] : List UInt8)) = true by simpa using hs1]
    refine stop ?_
    by_cases hr : (48 : UInt8) :: r = [48]
    ·exact .inr (hsd (hd.trans hr) hs1)
    ·left
     cases h : isDigL ((48 : UInt8) :: r) with
     | false => rfl
     | true =>
      rcases (dig.mp h).2 with h | h
      ·exact absurd rfl h
      ·exact absurd h hr
  ·have hne : ¬ bt d 0 = 48 := by
    rw [hb]; intro e
    exact h48 (UInt8.toNat_inj.mp (by rw [show (48 : UInt8).toNat = 48 from rfl]; omega))
   refine Ev.neg hne ?_
   by_cases hm : s.toList = [45, 48]
   ·have := hm0 hm
    rw [hd] at this
    exact absurd (List.cons.inj this).1 h48
   ·exact go hm (.inl h48)
theorem tail_ne {l : List UInt8} {a : UInt8} {r : List UInt8} (h : l = a :: r) : l.tail = r := by rw [h]; rfl
theorem size_ext {s : ByteArray} {a : UInt8} {r : List UInt8} (h : s.toList = a :: r) : (s.extract 1 s.size).toList = r := by
 rw [Lib.toList_data] at h ⊢
 have : s.size = r.length + 1 := by rw [← ByteArray.size_data, ← Array.length_toList, h]; rfl
 simp only [ByteArray.data_extract, Array.toList_extract, h]
 simp [this, h]
/-- What Parse says, in the document's words. -/
theorem parseN_is (s d : ByteArray) (hd : d.toList = (trimP s).toList) (hz : s.size ≤ 100) : parseN s = (if isDigL d.toList = false ∨ s.toList = [45, 48] then (0, 1) else (if 19 < d.size then (0, 2) else endN s d (dval 0 d.toList))) := by
 unfold parseN
 rw [← Lib.toList_data, ← hd]
 by_cases hc : isDigL d.toList = false ∨ s.toList = [45, 48]
 ·rw [if_pos hc, if_pos hc]
 ·rw [if_neg hc, if_neg hc]
  have hi : isDigL d.toList = true := by cases h : isDigL d.toList with
   | false => exact absurd (.inl h) hc
   | true => rfl
  obtain ⟨h1, h2, h3⟩ := (isDig_iff _).mp hi
  have hlen : d.toList.length = d.size := tl_len d
  -- 20 digits, the first not 0: too great
  have big : 19 < d.size → 9223372036854775808 < dval 0 d.toList := by
   intro h19
   cases hl : d.toList with
   | nil => exact absurd hl h1
   | cons a r =>
    rw [hl] at h2 h3 hlen
    have ha : 48 ≤ a.toNat ∧ a.toNat ≤ 57 := h2 a (List.mem_cons_self ..)
    have h48 : a ≠ 48 := by
     rcases h3 with h | h
     ·simpa using h
     ·have : r = [] := (List.cons.inj h).2
      rw [this] at hlen; simp at hlen; omega
    have h49 : 49 ≤ a.toNat := by
     rcases Nat.lt_or_ge 48 a.toNat with h | h
     ·exact h
     ·exact absurd (UInt8.toNat_inj.mp (by rw [show (48 : UInt8).toNat = 48 from rfl]; omega)) h48
    rw [dval_cons]
    refine Nat.lt_of_lt_of_le ?_ (dval_big r _)
    have hr : 19 ≤ r.length := by simp at hlen; omega
    have hp : (10 : Nat) ^ 19 ≤ 10 ^ r.length := Nat.pow_le_pow_right (by decide) hr
    have h19 : (10 : Nat) ^ 19 = 10000000000000000000 := by decide
    have hm : 1 * 10 ^ r.length ≤ (0 * 10 + (a.toNat - 48)) * 10 ^ r.length := Nat.mul_le_mul_right _ (by omega)
    omega
  have hv : Lib.parseMag d.toList = if dval 0 d.toList < 18446744073709551616 then .ok (dval 0 d.toList) else .range := by
   unfold Lib.parseMag
   rw [if_neg h1, parse_val _ _ h2 (by decide)]
  unfold endN
  rw [trimP_tl] at hd
  by_cases h45 : s.toList.head? = some 45
  ·rw [if_pos h45] at hd
   cases hs : s.toList with
   | nil => rw [hs] at h45; cases h45
   | cons a r =>
    rw [hs] at h45 hd
    obtain rfl : a = 45 := by simpa using h45
    have hd' : r = d.toList := hd.symm
    have hlt : d.size < s.size := by rw [← tl_len, ← tl_len s, hs, hd']; simp
    rw [← Lib.toList_data, hs, Lib.atoiAll_minus, hd', hv]
    generalize dval 0 d.toList = v at big ⊢
    by_cases h0 : v < 18446744073709551616
    ·rw [if_pos h0]
     simp only [Lib.signed]
     by_cases hg : 9223372036854775808 < v
     ·rw [if_pos hg, if_pos hlt, if_pos hg]; simp
     ·rw [if_neg hg, if_neg (fun h => hg (big h)), if_pos hlt, if_neg hg]
    ·rw [if_neg h0, if_pos hlt, if_pos (show 9223372036854775808 < v by omega)]
     simp only [Lib.signed]; simp
  ·rw [if_neg h45] at hd
   cases hs : s.toList with
   | nil => rw [hs] at hd; exact absurd hd h1
   | cons a r =>
    have hnlt : ¬ d.size < s.size := by rw [← tl_len, ← tl_len s, hd]; omega
    have ha : 48 ≤ a.toNat ∧ a.toNat ≤ 57 := h2 a (by rw [hd, hs]; exact List.mem_cons_self ..)
    rw [← Lib.toList_data, hs, Lib.atoiAll_plain _ _ (by omega) (by omega), ← hs, ← hd, hv]
    generalize dval 0 d.toList = v at big ⊢
    by_cases h0 : v < 18446744073709551616
    ·rw [if_pos h0]
     simp only [Lib.signless]
     by_cases hg : 9223372036854775808 ≤ v
     ·rw [if_pos hg, if_neg hnlt, if_pos (show 9223372036854775807 < v by omega)]; simp
     ·rw [if_neg hg, if_neg (fun h => hg (Nat.le_of_lt (big h))), if_neg hnlt, if_neg (show ¬ 9223372036854775807 < v by omega)]
    ·rw [if_neg h0, if_neg hnlt, if_pos (show 9223372036854775807 < v by omega)]
     simp only [Lib.signless]; simp
theorem parse_same (s : ByteArray) (hz : s.size ≤ 100) : Ev (fun k => truantref01_Parse.f k s) (parseN s) := by
 unfold truantref01_Parse.f
 cases hs : s.toList with
 | nil =>
  have h0 : ¬ (s.size : Int) > 0 := by rw [← tl_len, hs]; simp
  refine Ev.neg h0 ?_
  have hd : s.toList = (trimP s).toList := by rw [trimP_tl, hs]; rfl
  rw [parseN_is s s hd hz]
  exact Ev.step (f := fun k => truantref01_Parse.j1 k s s) (fun k => by simp [truantref01_Parse.j0]) (p_rest s s hz (fun h => h) (fun h h' => absurd h h') (fun h => by rw [hs] at h; cases h))
 | cons a r =>
  have h0 : (s.size : Int) > 0 := by rw [← tl_len, hs, List.length_cons]; omega
  refine Ev.pos h0 ?_
  refine Ev.pos (by omega) ?_
  have hb := bt_head hs
  by_cases h45 : a = 45
  ·subst h45
   have hb' : (bt s 0 == 45) = true := by rw [hb]; rfl
   have he := size_ext hs
   have hd : (s.extract 1 s.size).toList = (trimP s).toList := by rw [he, trimP_tl, hs]; rfl
   rw [parseN_is s _ hd hz, hb']
   have h1 : (1 : Int) ≤ (s.size : Int) := by omega
   refine Ev.step (f := fun k => truantref01_Parse.j1 k s (s.extract 1 s.size)) (fun k => by simp only [truantref01_Parse.j0, if_true]; rw [if_pos h1]) ?_
   refine p_rest s _ ?_ (fun h => ?_) (fun h _ => ?_) (fun h => ?_)
   ·rw [← tl_len, he]; rw [← tl_len, hs] at hz; simp at hz; omega
   ·rw [hs] at h; cases h
   ·rw [he] at h; rw [hs, h]
   ·rw [he]; rw [hs] at h; exact (List.cons.inj h).2
  ·have hb' : (bt s 0 == 45) = false := by
    rw [hb, beq_eq_false_iff_ne]
    intro e
    exact h45 (UInt8.toNat_inj.mp (by rw [show (45 : UInt8).toNat = 45 from rfl]; omega))
   have hd : s.toList = (trimP s).toList := by rw [trimP_tl, hs, if_neg (by simpa using h45)]
   rw [parseN_is s s hd hz, hb']
   exact Ev.step (f := fun k => truantref01_Parse.j1 k s s) (fun k => by simp [truantref01_Parse.j0]) (p_rest s s hz (fun h => h) (fun h h' => absurd h h') (fun h => by rw [hs] at h; exact absurd (List.cons.inj h).1 h45))
theorem NumTexts_pure : NumTexts.Pure := by
 intro n s hn hs
 have hn := R64.of hn
 have hs : s.size ≤ 140737488351232 := hs
 refine Ev.rounds ?_
 unfold truantlaw01_NumTexts.f
 refine Ev.bind ⟨30, fun k hk => by obtain ⟨m, rfl⟩ : ∃ m, k = m + 30 := ⟨k - 30, by omega⟩; exact awake_all m⟩ ?_
 refine Ev.congr (fun k => if_pos rfl) ?_
 by_cases hz : (s.size : Int) > 100
 ·exact Ev.pos hz (Ev.now _)
 ·refine Ev.neg hz ?_
  obtain ⟨t, t1, t2⟩ := text_same hn
  refine Ev.one (show num_Parse.f s = some (parseN s) by unfold num_Parse.f; rw [if_pos hs]) ?_
  refine Ev.bind (parse_same s (by omega)) ?_
  refine Ev.one (show num_Text.f n = some ⟨(Lib.itoa n).toArray⟩ by unfold num_Text.f; rw [if_pos (show -9223372036854775808 ≤ n ∧ n ≤ 9223372036854775807 from hn)]) ?_
  refine Ev.bind t2 ?_
  refine Ev.pos (by rw [t1, tl_data]) ?_
  refine Ev.pos rfl ?_
  exact ⟨0, fun k _ => by simp⟩
end Go.Proofs.YtcmppjonpmgncaaDoor.Q

/- From what the row lists to what the calls read of the package-level variables: by hand. -/
namespace Go.Proofs.YtcmppjonpmgncaaDoor.Q
open Go.RowKit Go.Proofs.YtcmppjonpmgncaaDoorW.PrintWords Go.Proofs.YtcmppjonpmgncaaDoorW.PrintLast Go.Proofs.YtcmppjonpmgncaaDoorW.PrintMore
set_option linter.unusedVariables false
set_option linter.unusedSimpArgs false
theorem gES : Tryd.prog.globalNamed "strconv.ErrSyntax" = some 0 := by kernel_rfl
theorem gER : Tryd.prog.globalNamed "strconv.ErrRange" = some 1 := by kernel_rfl
theorem gPow : Tryd.prog.globalNamed "internal/strconv.uint64pow10" = some 2 := by kernel_rfl
theorem gESType : (Tryd.prog.globals[0]?).map (·.type) = some 60 := by kernel_rfl
theorem gERType : (Tryd.prog.globals[1]?).map (·.type) = some 60 := by kernel_rfl
theorem gPowType : (Tryd.prog.globals[2]?).map (·.type) = some 102 := by kernel_rfl
theorem cellsES : Tryd.prog.cellsOf 101 = 1 := by kernel_rfl
theorem cellsStr : Tryd.prog.cellsOf 9 = 1 := by kernel_rfl
theorem cellsU64 : Tryd.prog.cellsOf 63 = 1 := by kernel_rfl
theorem cellsPow : Tryd.prog.cellsOf 102 = 20 := by kernel_rfl
theorem star_ : "*" ++ "errors.errorString" = "*errors.errorString" := by decide
theorem rowES (u : TypeId) (h : Tryd.prog.typeName? 3 u = some "*errors.errorString") : u = 99 :=
 typeName_ptr_named (nm := "errors.errorString") (by rw [star_]; kernel_rfl) (by kernel_rfl) (by decide) u (by rw [star_]; exact h)
theorem powData : (Rows.laid_internal_strconv_uint64pow10 : DataW Unit) = Lib.tabData .u64 Lib.pow10Tab := by kernel_rfl
def listed : List (String × DataW Unit) := [("math/bits.deBruijn32tab", Rows.laid_math_bits_deBruijn32tab), ("math/bits.deBruijn64tab", Rows.laid_math_bits_deBruijn64tab), ("internal/strconv.uint64pow10", Rows.laid_internal_strconv_uint64pow10), ("unicode/utf8.acceptRanges", Rows.laid_unicode_utf8_acceptRanges), ("strconv.ErrRange", Rows.laid_strconv_ErrRange), ("strconv.ErrSyntax", Rows.laid_strconv_ErrSyntax), ("unicode/utf8.first", Rows.laid_unicode_utf8_first)]
theorem glob_of_laid {W : World} (h : laidMetH Tryd.prog listed W) : Glob W := by
 rw [MakeChecks.laidMetH_plain _ _ _ (by kernel_rfl)] at h
 have h2 := h.tail.tail
 have h4 := h2.tail.tail
 have h5 := h4.tail
 rw [powData] at h2
 have a := Lib.tabIs_of_head gPow gPowType Tryd.underlying102 Tryd.underlying63 cellsU64 cellsPow h2
 obtain ⟨p4, _, v4, _, _, _⟩ := laid_sentinel h4 gER gERType Tryd.underlying60 rowES Tryd.underlying99 Tryd.underlying101 rfl rfl Tryd.underlying9 cellsES cellsStr
 obtain ⟨p5, _, v5, _, _, _⟩ := laid_sentinel h5 gES gESType Tryd.underlying60 rowES Tryd.underlying99 Tryd.underlying101 rfl rfl Tryd.underlying9 cellsES cellsStr
 exact ⟨a, ⟨_, _, v5⟩, ⟨_, _, v4⟩⟩
end Go.Proofs.YtcmppjonpmgncaaDoor.Q
