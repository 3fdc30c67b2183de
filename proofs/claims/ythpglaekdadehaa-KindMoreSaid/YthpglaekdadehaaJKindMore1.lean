/- What the row of KindMore rests on, part 1: contracts of the functions that it reaches, and the plain law. -/
import Derived.Test.YthpglaekdadehaaJKindMore0
namespace Go.Proofs.Ythpglaekdadehaa.Q
open Go.RowKit Go.Proofs.YthpglaekdadehaaW.PrintWords Go.Proofs.YthpglaekdadehaaW.PrintLast Go.Proofs.YthpglaekdadehaaW.PrintMore
attribute [local go_sem] max2_int min2_int max_two min_two max_three min_three max_four min_four   -- for this text's walks alone
set_option linter.unusedVariables false
set_option linter.unusedSimpArgs false

/-! ### truantlaw03_awake: function 7 -/
def truantlaw03_awake.f (k : Nat)  : Option (Bool) := (truantlaw03_two.f).bind fun t162 => ((kind_Check.f k t162).bind fun bt165 => ((kind_Check.f k (([(⟨(⟨#[84]⟩ : ByteArray), ([] : List (S48))⟩ : S43), (⟨(⟨#[84]⟩ : ByteArray), ([] : List (S48))⟩ : S43)] : List (S43)))).bind fun bt170 => ((kind_Reach.f k t162 (⟨#[42, 85]⟩ : ByteArray)).bind fun t172 => (if 0 < (t162.length : Int) then ((kind_Links.f k ((rd_T43 t162 0).f0) ((rd_T43 t162 0).f1)).bind fun t176 => ((kind_Place.f ((rd_T43 t162 0).f0) ((rd_T43 t162 0).f1) (⟨#[117]⟩ : ByteArray)).bind fun bt180 => ((kind_Elem.f k (⟨#[42, 84]⟩ : ByteArray)).bind fun bt182 => ((kind_Elem.f k (⟨#[105, 110, 116]⟩ : ByteArray)).bind fun bt184 => (if bt165.2 = 0 then (if bt165.1 = 0 then (if bt170.2 = 6 then (if bt170.1 = 1 then (if (t172.length : Int) = 2 then (if 0 < (t172.length : Int) then (if (rdOf ByteArray.empty t172 0).toList = ([84] : List UInt8) then (if 1 < (t172.length : Int) then (if (rdOf ByteArray.empty t172 1).toList = ([85] : List UInt8) then (if (t176.length : Int) = 1 then (if 0 < (t176.length : Int) then (if (rd t176 0) = 1 then (if bt180.2 = true then (if bt180.1 = 1 then (if bt182.2 = true then (if bt182.1.toList = ([84] : List UInt8) then (if bt184.2 = true then (none) else ((kind_Pointer.f (⟨#[84]⟩ : ByteArray)).bind fun t189 => (if t189.toList = ([42, 84] : List UInt8) then ((kind_Is.f k t162 (⟨#[98, 111, 111, 108]⟩ : ByteArray)).bind fun t190 => (if t190 = true then ((kind_Is.f k t162 (⟨#[42, 87]⟩ : ByteArray)).bind fun t191 => (if t191 = true then (none) else ((truantlaw03_two.f).bind fun t192 => ((kind_Same.f t162 t192).bind fun t195 => (some t195))))) else (none))) else (none)))) else (none)) else (none)) else (none)) else (none)) else (none)) else (none)) else (none)) else (none)) else (none)) else (none)) else (none)) else (none)) else (none)) else (none)) else (none)) else (none)))))) else (none)))))
theorem truantlaw03_awake.mono : ∀ k, LeO (truantlaw03_awake.f k ) (truantlaw03_awake.f (k + 1) ) := by
 intro  k
 unfold truantlaw03_awake.f
 repeat' first
   | (with_reducible exact kind_Check.mono _ _)
   | (with_reducible exact kind_Elem.mono _ _)
   | (with_reducible exact kind_Is.mono _ _ _)
   | (with_reducible exact kind_Links.mono _ _ _)
   | (with_reducible exact kind_Reach.mono _ _ _)
   | (with_reducible exact LeO.refl _)
   | (with_reducible exact LeO.none _)
   | (with_reducible refine LeO.ite ?_ ?_)
   | (with_reducible refine LeO.bind ?_ (fun _ => ?_))
   | exact kind_Check.mono _ _
   | exact kind_Elem.mono _ _
   | exact kind_Is.mono _ _ _
   | exact kind_Links.mono _ _ _
   | exact kind_Reach.mono _ _ _
   | exact LeO.none _
   | refine LeO.ite ?_ ?_
   | refine LeO.bind ?_ (fun _ => ?_)
set_option maxHeartbeats 8000000 in
set_option maxRecDepth 100000 in
theorem truantlaw03_awake.calls (k : Nat)  (r : Bool) (w : World) (h : truantlaw03_awake.f k  = some r) :
  Calls Try.prog 7 #[] w fun e w' => e = .returned (.bool r) ∧ Below w.heap.size w w' := by
 have hu43 := Try.underlying43
 have HB := Aside0.mk (Below.refl w.heap.size w)
 have H : ((truantlaw03_two.f).bind fun t162 => ((kind_Check.f k t162).bind fun bt165 => ((kind_Check.f k (([(⟨(⟨#[84]⟩ : ByteArray), ([] : List (S48))⟩ : S43), (⟨(⟨#[84]⟩ : ByteArray), ([] : List (S48))⟩ : S43)] : List (S43)))).bind fun bt170 => ((kind_Reach.f k t162 (⟨#[42, 85]⟩ : ByteArray)).bind fun t172 => (if 0 < (t162.length : Int) then ((kind_Links.f k ((rd_T43 t162 0).f0) ((rd_T43 t162 0).f1)).bind fun t176 => ((kind_Place.f ((rd_T43 t162 0).f0) ((rd_T43 t162 0).f1) (⟨#[117]⟩ : ByteArray)).bind fun bt180 => ((kind_Elem.f k (⟨#[42, 84]⟩ : ByteArray)).bind fun bt182 => ((kind_Elem.f k (⟨#[105, 110, 116]⟩ : ByteArray)).bind fun bt184 => (if bt165.2 = 0 then (if bt165.1 = 0 then (if bt170.2 = 6 then (if bt170.1 = 1 then (if (t172.length : Int) = 2 then (if 0 < (t172.length : Int) then (if (rdOf ByteArray.empty t172 0).toList = ([84] : List UInt8) then (if 1 < (t172.length : Int) then (if (rdOf ByteArray.empty t172 1).toList = ([85] : List UInt8) then (if (t176.length : Int) = 1 then (if 0 < (t176.length : Int) then (if (rd t176 0) = 1 then (if bt180.2 = true then (if bt180.1 = 1 then (if bt182.2 = true then (if bt182.1.toList = ([84] : List UInt8) then (if bt184.2 = true then (none) else ((kind_Pointer.f (⟨#[84]⟩ : ByteArray)).bind fun t189 => (if t189.toList = ([42, 84] : List UInt8) then ((kind_Is.f k t162 (⟨#[98, 111, 111, 108]⟩ : ByteArray)).bind fun t190 => (if t190 = true then ((kind_Is.f k t162 (⟨#[42, 87]⟩ : ByteArray)).bind fun t191 => (if t191 = true then (none) else ((truantlaw03_two.f).bind fun t192 => ((kind_Same.f t162 t192).bind fun t195 => (some t195))))) else (none))) else (none)))) else (none)) else (none)) else (none)) else (none)) else (none)) else (none)) else (none)) else (none)) else (none)) else (none)) else (none)) else (none)) else (none)) else (none)) else (none)) else (none)))))) else (none)))))) = some r := h
 clear h
 replace H := Option.bind_eq_some_iff.mp H
 obtain ⟨t162, A10, H⟩ := H
 replace H : ((kind_Check.f k t162).bind fun bt165 => ((kind_Check.f k (([(⟨(⟨#[84]⟩ : ByteArray), ([] : List (S48))⟩ : S43), (⟨(⟨#[84]⟩ : ByteArray), ([] : List (S48))⟩ : S43)] : List (S43)))).bind fun bt170 => ((kind_Reach.f k t162 (⟨#[42, 85]⟩ : ByteArray)).bind fun t172 => (if 0 < (t162.length : Int) then ((kind_Links.f k ((rd_T43 t162 0).f0) ((rd_T43 t162 0).f1)).bind fun t176 => ((kind_Place.f ((rd_T43 t162 0).f0) ((rd_T43 t162 0).f1) (⟨#[117]⟩ : ByteArray)).bind fun bt180 => ((kind_Elem.f k (⟨#[42, 84]⟩ : ByteArray)).bind fun bt182 => ((kind_Elem.f k (⟨#[105, 110, 116]⟩ : ByteArray)).bind fun bt184 => (if bt165.2 = 0 then (if bt165.1 = 0 then (if bt170.2 = 6 then (if bt170.1 = 1 then (if (t172.length : Int) = 2 then (if 0 < (t172.length : Int) then (if (rdOf ByteArray.empty t172 0).toList = ([84] : List UInt8) then (if 1 < (t172.length : Int) then (if (rdOf ByteArray.empty t172 1).toList = ([85] : List UInt8) then (if (t176.length : Int) = 1 then (if 0 < (t176.length : Int) then (if (rd t176 0) = 1 then (if bt180.2 = true then (if bt180.1 = 1 then (if bt182.2 = true then (if bt182.1.toList = ([84] : List UInt8) then (if bt184.2 = true then (none) else ((kind_Pointer.f (⟨#[84]⟩ : ByteArray)).bind fun t189 => (if t189.toList = ([42, 84] : List UInt8) then ((kind_Is.f k t162 (⟨#[98, 111, 111, 108]⟩ : ByteArray)).bind fun t190 => (if t190 = true then ((kind_Is.f k t162 (⟨#[42, 87]⟩ : ByteArray)).bind fun t191 => (if t191 = true then (none) else ((truantlaw03_two.f).bind fun t192 => ((kind_Same.f t162 t192).bind fun t195 => (some t195))))) else (none))) else (none)))) else (none)) else (none)) else (none)) else (none)) else (none)) else (none)) else (none)) else (none)) else (none)) else (none)) else (none)) else (none)) else (none)) else (none)) else (none)) else (none)))))) else (none))))) = some r := H
 have A1 := Aside0.mk A10
 clear A10
 replace H := Option.bind_eq_some_iff.mp H
 obtain ⟨⟨t165, t166⟩, A20, H⟩ := H
 replace H : ((kind_Check.f k (([(⟨(⟨#[84]⟩ : ByteArray), ([] : List (S48))⟩ : S43), (⟨(⟨#[84]⟩ : ByteArray), ([] : List (S48))⟩ : S43)] : List (S43)))).bind fun bt170 => ((kind_Reach.f k t162 (⟨#[42, 85]⟩ : ByteArray)).bind fun t172 => (if 0 < (t162.length : Int) then ((kind_Links.f k ((rd_T43 t162 0).f0) ((rd_T43 t162 0).f1)).bind fun t176 => ((kind_Place.f ((rd_T43 t162 0).f0) ((rd_T43 t162 0).f1) (⟨#[117]⟩ : ByteArray)).bind fun bt180 => ((kind_Elem.f k (⟨#[42, 84]⟩ : ByteArray)).bind fun bt182 => ((kind_Elem.f k (⟨#[105, 110, 116]⟩ : ByteArray)).bind fun bt184 => (if t166 = 0 then (if t165 = 0 then (if bt170.2 = 6 then (if bt170.1 = 1 then (if (t172.length : Int) = 2 then (if 0 < (t172.length : Int) then (if (rdOf ByteArray.empty t172 0).toList = ([84] : List UInt8) then (if 1 < (t172.length : Int) then (if (rdOf ByteArray.empty t172 1).toList = ([85] : List UInt8) then (if (t176.length : Int) = 1 then (if 0 < (t176.length : Int) then (if (rd t176 0) = 1 then (if bt180.2 = true then (if bt180.1 = 1 then (if bt182.2 = true then (if bt182.1.toList = ([84] : List UInt8) then (if bt184.2 = true then (none) else ((kind_Pointer.f (⟨#[84]⟩ : ByteArray)).bind fun t189 => (if t189.toList = ([42, 84] : List UInt8) then ((kind_Is.f k t162 (⟨#[98, 111, 111, 108]⟩ : ByteArray)).bind fun t190 => (if t190 = true then ((kind_Is.f k t162 (⟨#[42, 87]⟩ : ByteArray)).bind fun t191 => (if t191 = true then (none) else ((truantlaw03_two.f).bind fun t192 => ((kind_Same.f t162 t192).bind fun t195 => (some t195))))) else (none))) else (none)))) else (none)) else (none)) else (none)) else (none)) else (none)) else (none)) else (none)) else (none)) else (none)) else (none)) else (none)) else (none)) else (none)) else (none)) else (none)) else (none)))))) else (none)))) = some r := H
 have A2 := Aside0.mk A20
 clear A20
 obtain ⟨y167, hy167⟩ : ∃ y_ : List (S43), y_ = (([(⟨(⟨#[84]⟩ : ByteArray), ([] : List (S48))⟩ : S43), (⟨(⟨#[84]⟩ : ByteArray), ([] : List (S48))⟩ : S43)] : List (S43))) := ⟨_, rfl⟩
 replace H : ((kind_Check.f k y167).bind fun bt170 => ((kind_Reach.f k t162 (⟨#[42, 85]⟩ : ByteArray)).bind fun t172 => (if 0 < (t162.length : Int) then ((kind_Links.f k ((rd_T43 t162 0).f0) ((rd_T43 t162 0).f1)).bind fun t176 => ((kind_Place.f ((rd_T43 t162 0).f0) ((rd_T43 t162 0).f1) (⟨#[117]⟩ : ByteArray)).bind fun bt180 => ((kind_Elem.f k (⟨#[42, 84]⟩ : ByteArray)).bind fun bt182 => ((kind_Elem.f k (⟨#[105, 110, 116]⟩ : ByteArray)).bind fun bt184 => (if t166 = 0 then (if t165 = 0 then (if bt170.2 = 6 then (if bt170.1 = 1 then (if (t172.length : Int) = 2 then (if 0 < (t172.length : Int) then (if (rdOf ByteArray.empty t172 0).toList = ([84] : List UInt8) then (if 1 < (t172.length : Int) then (if (rdOf ByteArray.empty t172 1).toList = ([85] : List UInt8) then (if (t176.length : Int) = 1 then (if 0 < (t176.length : Int) then (if (rd t176 0) = 1 then (if bt180.2 = true then (if bt180.1 = 1 then (if bt182.2 = true then (if bt182.1.toList = ([84] : List UInt8) then (if bt184.2 = true then (none) else ((kind_Pointer.f (⟨#[84]⟩ : ByteArray)).bind fun t189 => (if t189.toList = ([42, 84] : List UInt8) then ((kind_Is.f k t162 (⟨#[98, 111, 111, 108]⟩ : ByteArray)).bind fun t190 => (if t190 = true then ((kind_Is.f k t162 (⟨#[42, 87]⟩ : ByteArray)).bind fun t191 => (if t191 = true then (none) else ((truantlaw03_two.f).bind fun t192 => ((kind_Same.f t162 t192).bind fun t195 => (some t195))))) else (none))) else (none)))) else (none)) else (none)) else (none)) else (none)) else (none)) else (none)) else (none)) else (none)) else (none)) else (none)) else (none)) else (none)) else (none)) else (none)) else (none)) else (none)))))) else (none)))) = some r := by first | (rw [hy167]; with_reducible exact H) | (have H2_ := (Option.bind_some _ _).symm.trans H; rw [hy167]; with_reducible exact H2_) | (have H2_ := (Option.bind_some _ _).symm.trans H; with_reducible exact H2_) | with_reducible exact H | (rw [hy167]; exact H) | exact H
 have Ny167 := Aside0.mk hy167
 clear hy167
 replace H := Option.bind_eq_some_iff.mp H
 obtain ⟨⟨t170, t171⟩, A30, H⟩ := H
 replace H : ((kind_Reach.f k t162 (⟨#[42, 85]⟩ : ByteArray)).bind fun t172 => (if 0 < (t162.length : Int) then ((kind_Links.f k ((rd_T43 t162 0).f0) ((rd_T43 t162 0).f1)).bind fun t176 => ((kind_Place.f ((rd_T43 t162 0).f0) ((rd_T43 t162 0).f1) (⟨#[117]⟩ : ByteArray)).bind fun bt180 => ((kind_Elem.f k (⟨#[42, 84]⟩ : ByteArray)).bind fun bt182 => ((kind_Elem.f k (⟨#[105, 110, 116]⟩ : ByteArray)).bind fun bt184 => (if t166 = 0 then (if t165 = 0 then (if t171 = 6 then (if t170 = 1 then (if (t172.length : Int) = 2 then (if 0 < (t172.length : Int) then (if (rdOf ByteArray.empty t172 0).toList = ([84] : List UInt8) then (if 1 < (t172.length : Int) then (if (rdOf ByteArray.empty t172 1).toList = ([85] : List UInt8) then (if (t176.length : Int) = 1 then (if 0 < (t176.length : Int) then (if (rd t176 0) = 1 then (if bt180.2 = true then (if bt180.1 = 1 then (if bt182.2 = true then (if bt182.1.toList = ([84] : List UInt8) then (if bt184.2 = true then (none) else ((kind_Pointer.f (⟨#[84]⟩ : ByteArray)).bind fun t189 => (if t189.toList = ([42, 84] : List UInt8) then ((kind_Is.f k t162 (⟨#[98, 111, 111, 108]⟩ : ByteArray)).bind fun t190 => (if t190 = true then ((kind_Is.f k t162 (⟨#[42, 87]⟩ : ByteArray)).bind fun t191 => (if t191 = true then (none) else ((truantlaw03_two.f).bind fun t192 => ((kind_Same.f t162 t192).bind fun t195 => (some t195))))) else (none))) else (none)))) else (none)) else (none)) else (none)) else (none)) else (none)) else (none)) else (none)) else (none)) else (none)) else (none)) else (none)) else (none)) else (none)) else (none)) else (none)) else (none)))))) else (none))) = some r := H
 have A3 := Aside0.mk A30
 clear A30
 replace H := Option.bind_eq_some_iff.mp H
 obtain ⟨t172, A40, H⟩ := H
 replace H : (if 0 < (t162.length : Int) then ((kind_Links.f k ((rd_T43 t162 0).f0) ((rd_T43 t162 0).f1)).bind fun t176 => ((kind_Place.f ((rd_T43 t162 0).f0) ((rd_T43 t162 0).f1) (⟨#[117]⟩ : ByteArray)).bind fun bt180 => ((kind_Elem.f k (⟨#[42, 84]⟩ : ByteArray)).bind fun bt182 => ((kind_Elem.f k (⟨#[105, 110, 116]⟩ : ByteArray)).bind fun bt184 => (if t166 = 0 then (if t165 = 0 then (if t171 = 6 then (if t170 = 1 then (if (t172.length : Int) = 2 then (if 0 < (t172.length : Int) then (if (rdOf ByteArray.empty t172 0).toList = ([84] : List UInt8) then (if 1 < (t172.length : Int) then (if (rdOf ByteArray.empty t172 1).toList = ([85] : List UInt8) then (if (t176.length : Int) = 1 then (if 0 < (t176.length : Int) then (if (rd t176 0) = 1 then (if bt180.2 = true then (if bt180.1 = 1 then (if bt182.2 = true then (if bt182.1.toList = ([84] : List UInt8) then (if bt184.2 = true then (none) else ((kind_Pointer.f (⟨#[84]⟩ : ByteArray)).bind fun t189 => (if t189.toList = ([42, 84] : List UInt8) then ((kind_Is.f k t162 (⟨#[98, 111, 111, 108]⟩ : ByteArray)).bind fun t190 => (if t190 = true then ((kind_Is.f k t162 (⟨#[42, 87]⟩ : ByteArray)).bind fun t191 => (if t191 = true then (none) else ((truantlaw03_two.f).bind fun t192 => ((kind_Same.f t162 t192).bind fun t195 => (some t195))))) else (none))) else (none)))) else (none)) else (none)) else (none)) else (none)) else (none)) else (none)) else (none)) else (none)) else (none)) else (none)) else (none)) else (none)) else (none)) else (none)) else (none)) else (none)))))) else (none)) = some r := H
 have A4 := Aside0.mk A40
 clear A40
 by_cases c5 : 0 < (t162.length : Int)
 ·rw [if_pos c5] at H
  have c5b0 : decide (0 < (t162.length : Int)) = true := decide_eq_true c5
  have c5b1 : decide (0 < t162.length) = true := decide_eq_true (by omega)
  clear c5
  replace H := Option.bind_eq_some_iff.mp H
  obtain ⟨t176, A60, H⟩ := H
  replace H : ((kind_Place.f ((rd_T43 t162 0).f0) ((rd_T43 t162 0).f1) (⟨#[117]⟩ : ByteArray)).bind fun bt180 => ((kind_Elem.f k (⟨#[42, 84]⟩ : ByteArray)).bind fun bt182 => ((kind_Elem.f k (⟨#[105, 110, 116]⟩ : ByteArray)).bind fun bt184 => (if t166 = 0 then (if t165 = 0 then (if t171 = 6 then (if t170 = 1 then (if (t172.length : Int) = 2 then (if 0 < (t172.length : Int) then (if (rdOf ByteArray.empty t172 0).toList = ([84] : List UInt8) then (if 1 < (t172.length : Int) then (if (rdOf ByteArray.empty t172 1).toList = ([85] : List UInt8) then (if (t176.length : Int) = 1 then (if 0 < (t176.length : Int) then (if (rd t176 0) = 1 then (if bt180.2 = true then (if bt180.1 = 1 then (if bt182.2 = true then (if bt182.1.toList = ([84] : List UInt8) then (if bt184.2 = true then (none) else ((kind_Pointer.f (⟨#[84]⟩ : ByteArray)).bind fun t189 => (if t189.toList = ([42, 84] : List UInt8) then ((kind_Is.f k t162 (⟨#[98, 111, 111, 108]⟩ : ByteArray)).bind fun t190 => (if t190 = true then ((kind_Is.f k t162 (⟨#[42, 87]⟩ : ByteArray)).bind fun t191 => (if t191 = true then (none) else ((truantlaw03_two.f).bind fun t192 => ((kind_Same.f t162 t192).bind fun t195 => (some t195))))) else (none))) else (none)))) else (none)) else (none)) else (none)) else (none)) else (none)) else (none)) else (none)) else (none)) else (none)) else (none)) else (none)) else (none)) else (none)) else (none)) else (none)) else (none))))) = some r := H
  have A6 := Aside0.mk A60
  clear A60
  replace H := Option.bind_eq_some_iff.mp H
  obtain ⟨⟨t180, t181⟩, A70, H⟩ := H
  replace H : ((kind_Elem.f k (⟨#[42, 84]⟩ : ByteArray)).bind fun bt182 => ((kind_Elem.f k (⟨#[105, 110, 116]⟩ : ByteArray)).bind fun bt184 => (if t166 = 0 then (if t165 = 0 then (if t171 = 6 then (if t170 = 1 then (if (t172.length : Int) = 2 then (if 0 < (t172.length : Int) then (if (rdOf ByteArray.empty t172 0).toList = ([84] : List UInt8) then (if 1 < (t172.length : Int) then (if (rdOf ByteArray.empty t172 1).toList = ([85] : List UInt8) then (if (t176.length : Int) = 1 then (if 0 < (t176.length : Int) then (if (rd t176 0) = 1 then (if t181 = true then (if t180 = 1 then (if bt182.2 = true then (if bt182.1.toList = ([84] : List UInt8) then (if bt184.2 = true then (none) else ((kind_Pointer.f (⟨#[84]⟩ : ByteArray)).bind fun t189 => (if t189.toList = ([42, 84] : List UInt8) then ((kind_Is.f k t162 (⟨#[98, 111, 111, 108]⟩ : ByteArray)).bind fun t190 => (if t190 = true then ((kind_Is.f k t162 (⟨#[42, 87]⟩ : ByteArray)).bind fun t191 => (if t191 = true then (none) else ((truantlaw03_two.f).bind fun t192 => ((kind_Same.f t162 t192).bind fun t195 => (some t195))))) else (none))) else (none)))) else (none)) else (none)) else (none)) else (none)) else (none)) else (none)) else (none)) else (none)) else (none)) else (none)) else (none)) else (none)) else (none)) else (none)) else (none)) else (none)))) = some r := H
  have A7 := Aside0.mk A70
  clear A70
  replace H := Option.bind_eq_some_iff.mp H
  obtain ⟨⟨t182, t183⟩, A80, H⟩ := H
  replace H : ((kind_Elem.f k (⟨#[105, 110, 116]⟩ : ByteArray)).bind fun bt184 => (if t166 = 0 then (if t165 = 0 then (if t171 = 6 then (if t170 = 1 then (if (t172.length : Int) = 2 then (if 0 < (t172.length : Int) then (if (rdOf ByteArray.empty t172 0).toList = ([84] : List UInt8) then (if 1 < (t172.length : Int) then (if (rdOf ByteArray.empty t172 1).toList = ([85] : List UInt8) then (if (t176.length : Int) = 1 then (if 0 < (t176.length : Int) then (if (rd t176 0) = 1 then (if t181 = true then (if t180 = 1 then (if t183 = true then (if t182.toList = ([84] : List UInt8) then (if bt184.2 = true then (none) else ((kind_Pointer.f (⟨#[84]⟩ : ByteArray)).bind fun t189 => (if t189.toList = ([42, 84] : List UInt8) then ((kind_Is.f k t162 (⟨#[98, 111, 111, 108]⟩ : ByteArray)).bind fun t190 => (if t190 = true then ((kind_Is.f k t162 (⟨#[42, 87]⟩ : ByteArray)).bind fun t191 => (if t191 = true then (none) else ((truantlaw03_two.f).bind fun t192 => ((kind_Same.f t162 t192).bind fun t195 => (some t195))))) else (none))) else (none)))) else (none)) else (none)) else (none)) else (none)) else (none)) else (none)) else (none)) else (none)) else (none)) else (none)) else (none)) else (none)) else (none)) else (none)) else (none)) else (none))) = some r := H
  have A8 := Aside0.mk A80
  clear A80
  replace H := Option.bind_eq_some_iff.mp H
  obtain ⟨⟨t184, t185⟩, A90, H⟩ := H
  replace H : (if t166 = 0 then (if t165 = 0 then (if t171 = 6 then (if t170 = 1 then (if (t172.length : Int) = 2 then (if 0 < (t172.length : Int) then (if (rdOf ByteArray.empty t172 0).toList = ([84] : List UInt8) then (if 1 < (t172.length : Int) then (if (rdOf ByteArray.empty t172 1).toList = ([85] : List UInt8) then (if (t176.length : Int) = 1 then (if 0 < (t176.length : Int) then (if (rd t176 0) = 1 then (if t181 = true then (if t180 = 1 then (if t183 = true then (if t182.toList = ([84] : List UInt8) then (if t185 = true then (none) else ((kind_Pointer.f (⟨#[84]⟩ : ByteArray)).bind fun t189 => (if t189.toList = ([42, 84] : List UInt8) then ((kind_Is.f k t162 (⟨#[98, 111, 111, 108]⟩ : ByteArray)).bind fun t190 => (if t190 = true then ((kind_Is.f k t162 (⟨#[42, 87]⟩ : ByteArray)).bind fun t191 => (if t191 = true then (none) else ((truantlaw03_two.f).bind fun t192 => ((kind_Same.f t162 t192).bind fun t195 => (some t195))))) else (none))) else (none)))) else (none)) else (none)) else (none)) else (none)) else (none)) else (none)) else (none)) else (none)) else (none)) else (none)) else (none)) else (none)) else (none)) else (none)) else (none)) else (none)) = some r := H
  have A9 := Aside0.mk A90
  clear A90
  by_cases c10 : t166 = 0
  ·rw [if_pos c10] at H
   have c10b0 : (t166 == 0) = true := beq_iff_eq.mpr c10
   have c10b1 : (t166 != 0) = false := bne_eq_false_iff_eq.mpr c10
   clear c10
   by_cases c11 : t165 = 0
   ·rw [if_pos c11] at H
    have c11b0 : (t165 == 0) = true := beq_iff_eq.mpr c11
    have c11b1 : (t165 != 0) = false := bne_eq_false_iff_eq.mpr c11
    clear c11
    by_cases c12 : t171 = 6
    ·rw [if_pos c12] at H
     have c12b0 : (t171 == 6) = true := beq_iff_eq.mpr c12
     have c12b1 : (t171 != 6) = false := bne_eq_false_iff_eq.mpr c12
     clear c12
     by_cases c13 : t170 = 1
     ·rw [if_pos c13] at H
      have c13b0 : (t170 == 1) = true := beq_iff_eq.mpr c13
      have c13b1 : (t170 != 1) = false := bne_eq_false_iff_eq.mpr c13
      clear c13
      by_cases c14 : (t172.length : Int) = 2
      ·rw [if_pos c14] at H
       have c14b0 : ((t172.length : Int) == 2) = true := beq_iff_eq.mpr c14
       have c14b1 : ((t172.length : Int) != 2) = false := bne_eq_false_iff_eq.mpr c14
       clear c14
       by_cases c15 : 0 < (t172.length : Int)
       ·rw [if_pos c15] at H
        have c15b0 : decide (0 < (t172.length : Int)) = true := decide_eq_true c15
        have c15b1 : decide (0 < t172.length) = true := decide_eq_true (by omega)
        clear c15
        by_cases c16 : (rdOf ByteArray.empty t172 0).toList = ([84] : List UInt8)
        ·rw [if_pos c16] at H
         have c16b0 : ((rdOf ByteArray.empty t172 0).toList == ([84] : List UInt8)) = true := beq_iff_eq.mpr c16
         have c16b1 : ((rdOf ByteArray.empty t172 0).toList != ([84] : List UInt8)) = false := bne_eq_false_iff_eq.mpr c16
         clear c16
         by_cases c17 : 1 < (t172.length : Int)
         ·rw [if_pos c17] at H
          have c17b0 : decide (1 < (t172.length : Int)) = true := decide_eq_true c17
          have c17b1 : decide (1 < t172.length) = true := decide_eq_true (by omega)
          clear c17
          by_cases c18 : (rdOf ByteArray.empty t172 1).toList = ([85] : List UInt8)
          ·rw [if_pos c18] at H
           have c18b0 : ((rdOf ByteArray.empty t172 1).toList == ([85] : List UInt8)) = true := beq_iff_eq.mpr c18
           have c18b1 : ((rdOf ByteArray.empty t172 1).toList != ([85] : List UInt8)) = false := bne_eq_false_iff_eq.mpr c18
           clear c18
           by_cases c19 : (t176.length : Int) = 1
           ·rw [if_pos c19] at H
            have c19b0 : ((t176.length : Int) == 1) = true := beq_iff_eq.mpr c19
            have c19b1 : ((t176.length : Int) != 1) = false := bne_eq_false_iff_eq.mpr c19
            clear c19
            by_cases c20 : 0 < (t176.length : Int)
            ·rw [if_pos c20] at H
             have c20b0 : decide (0 < (t176.length : Int)) = true := decide_eq_true c20
             have c20b1 : decide (0 < t176.length) = true := decide_eq_true (by omega)
             clear c20
             by_cases c21 : (rd t176 0) = 1
             ·rw [if_pos c21] at H
              have c21b0 : ((rd t176 0) == 1) = true := beq_iff_eq.mpr c21
              have c21b1 : ((rd t176 0) != 1) = false := bne_eq_false_iff_eq.mpr c21
              clear c21
              by_cases c22 : t181 = true
              ·subst c22
               have H1 : (if t180 = 1 then (if t183 = true then (if t182.toList = ([84] : List UInt8) then (if t185 = true then (none) else ((kind_Pointer.f (⟨#[84]⟩ : ByteArray)).bind fun t189 => (if t189.toList = ([42, 84] : List UInt8) then ((kind_Is.f k t162 (⟨#[98, 111, 111, 108]⟩ : ByteArray)).bind fun t190 => (if t190 = true then ((kind_Is.f k t162 (⟨#[42, 87]⟩ : ByteArray)).bind fun t191 => (if t191 = true then (none) else ((truantlaw03_two.f).bind fun t192 => ((kind_Same.f t162 t192).bind fun t195 => (some t195))))) else (none))) else (none)))) else (none)) else (none)) else (none)) = some r := by rw [if_pos rfl] at H; exact H
               clear H
               have H := H1
               clear H1
               by_cases c23 : t180 = 1
               ·rw [if_pos c23] at H
                have c23b0 : (t180 == 1) = true := beq_iff_eq.mpr c23
                have c23b1 : (t180 != 1) = false := bne_eq_false_iff_eq.mpr c23
                clear c23
                by_cases c24 : t183 = true
                ·subst c24
                 have H1 : (if t182.toList = ([84] : List UInt8) then (if t185 = true then (none) else ((kind_Pointer.f (⟨#[84]⟩ : ByteArray)).bind fun t189 => (if t189.toList = ([42, 84] : List UInt8) then ((kind_Is.f k t162 (⟨#[98, 111, 111, 108]⟩ : ByteArray)).bind fun t190 => (if t190 = true then ((kind_Is.f k t162 (⟨#[42, 87]⟩ : ByteArray)).bind fun t191 => (if t191 = true then (none) else ((truantlaw03_two.f).bind fun t192 => ((kind_Same.f t162 t192).bind fun t195 => (some t195))))) else (none))) else (none)))) else (none)) = some r := by rw [if_pos rfl] at H; exact H
                 clear H
                 have H := H1
                 clear H1
                 by_cases c25 : t182.toList = ([84] : List UInt8)
                 ·rw [if_pos c25] at H
                  have c25b0 : (t182.toList == ([84] : List UInt8)) = true := beq_iff_eq.mpr c25
                  have c25b1 : (t182.toList != ([84] : List UInt8)) = false := bne_eq_false_iff_eq.mpr c25
                  clear c25
                  by_cases c26 : t185 = true
                  ·subst c26
                   have H1 : (none) = some r := by rw [if_pos rfl] at H; exact H
                   clear H
                   have H := H1
                   clear H1
                   exact absurd H (by simp)
                  ·replace c26 := Bool.eq_false_iff.mpr c26
                   subst c26
                   have H1 : ((kind_Pointer.f (⟨#[84]⟩ : ByteArray)).bind fun t189 => (if t189.toList = ([42, 84] : List UInt8) then ((kind_Is.f k t162 (⟨#[98, 111, 111, 108]⟩ : ByteArray)).bind fun t190 => (if t190 = true then ((kind_Is.f k t162 (⟨#[42, 87]⟩ : ByteArray)).bind fun t191 => (if t191 = true then (none) else ((truantlaw03_two.f).bind fun t192 => ((kind_Same.f t162 t192).bind fun t195 => (some t195))))) else (none))) else (none))) = some r := by rw [if_neg (show ¬ (false = true) by decide)] at H; exact H
                   clear H
                   have H := H1
                   clear H1
                   replace H := Option.bind_eq_some_iff.mp H
                   obtain ⟨t189, A270, H⟩ := H
                   replace H : (if t189.toList = ([42, 84] : List UInt8) then ((kind_Is.f k t162 (⟨#[98, 111, 111, 108]⟩ : ByteArray)).bind fun t190 => (if t190 = true then ((kind_Is.f k t162 (⟨#[42, 87]⟩ : ByteArray)).bind fun t191 => (if t191 = true then (none) else ((truantlaw03_two.f).bind fun t192 => ((kind_Same.f t162 t192).bind fun t195 => (some t195))))) else (none))) else (none)) = some r := H
                   have A27 := Aside0.mk A270
                   clear A270
                   by_cases c28 : t189.toList = ([42, 84] : List UInt8)
                   ·rw [if_pos c28] at H
                    have c28b0 : (t189.toList == ([42, 84] : List UInt8)) = true := beq_iff_eq.mpr c28
                    have c28b1 : (t189.toList != ([42, 84] : List UInt8)) = false := bne_eq_false_iff_eq.mpr c28
                    clear c28
                    replace H := Option.bind_eq_some_iff.mp H
                    obtain ⟨t190, A290, H⟩ := H
                    replace H : (if t190 = true then ((kind_Is.f k t162 (⟨#[42, 87]⟩ : ByteArray)).bind fun t191 => (if t191 = true then (none) else ((truantlaw03_two.f).bind fun t192 => ((kind_Same.f t162 t192).bind fun t195 => (some t195))))) else (none)) = some r := H
                    have A29 := Aside0.mk A290
                    clear A290
                    by_cases c30 : t190 = true
                    ·subst c30
                     have H1 : ((kind_Is.f k t162 (⟨#[42, 87]⟩ : ByteArray)).bind fun t191 => (if t191 = true then (none) else ((truantlaw03_two.f).bind fun t192 => ((kind_Same.f t162 t192).bind fun t195 => (some t195))))) = some r := by rw [if_pos rfl] at H; exact H
                     clear H
                     have H := H1
                     clear H1
                     replace H := Option.bind_eq_some_iff.mp H
                     obtain ⟨t191, A310, H⟩ := H
                     replace H : (if t191 = true then (none) else ((truantlaw03_two.f).bind fun t192 => ((kind_Same.f t162 t192).bind fun t195 => (some t195)))) = some r := H
                     have A31 := Aside0.mk A310
                     clear A310
                     by_cases c32 : t191 = true
                     ·subst c32
                      have H1 : (none) = some r := by rw [if_pos rfl] at H; exact H
                      clear H
                      have H := H1
                      clear H1
                      exact absurd H (by simp)
                     ·replace c32 := Bool.eq_false_iff.mpr c32
                      subst c32
                      have H1 : ((truantlaw03_two.f).bind fun t192 => ((kind_Same.f t162 t192).bind fun t195 => (some t195))) = some r := by rw [if_neg (show ¬ (false = true) by decide)] at H; exact H
                      clear H
                      have H := H1
                      clear H1
                      replace H := Option.bind_eq_some_iff.mp H
                      obtain ⟨t192, A330, H⟩ := H
                      replace H : ((kind_Same.f t162 t192).bind fun t195 => (some t195)) = some r := H
                      have A33 := Aside0.mk A330
                      clear A330
                      replace H := Option.bind_eq_some_iff.mp H
                      obtain ⟨t195, A340, H⟩ := H
                      replace H : (some t195) = some r := H
                      have A34 := Aside0.mk A340
                      clear A340
                      obtain rfl := Option.some.inj H
                      go_enter Try.func7, Try.ntmps7
                      go_wp2_with (first | ((with_reducible refine gate_callee (f := 25) rfl ?_); refine goesL_ (some 14) rfl rfl Try.func25 (by kernel_rfl) rfl #[] rfl (by (try simp only [List.map_toArray, List.map_cons, List.map_nil]); first | done | rfl | (simp only [List.length_drop, List.length_take]; rfl)) ?_; (with_reducible refine (truantlaw03_two.calls  t162 _ A1.out).mono ?_); rintro e w35 ⟨v163, rfl, ho0, hb⟩; refine ⟨_, rfl, ?_⟩; have n0_ := Aside0.mk (Kd.N_lower (Kd.N_mono (ok' := fun k_ => True) ho0 (fun k_ hk_ => trivial)) (below_size (by repeat (first | (with_reducible first | exact HB.out | apply below_alloc | apply pw_below_drewN | apply below_drew1) | exact HB.out)))); have n1_ := Aside0.mk (below_step (by repeat (first | (with_reducible first | exact HB.out | apply below_alloc | apply pw_below_drewN | apply below_drew1) | exact HB.out)) hb); clear HB; have HO164 := n0_; have HB := n1_; clear n0_ n1_; (try clear hb); (try clear hb2); (try clear hk); (try clear hi); (try clear ho0); obtain ⟨Ao36, co36, eo36⟩ := Kd.N_slice HO164.out; subst eo36) | ((with_reducible refine gate_callee (f := 9) rfl ?_); refine goesL_ (some 17) rfl rfl Try.func9 (by kernel_rfl) rfl #[.slice Ao36 t162.length co36] rfl (by (try simp only [List.map_toArray, List.map_cons, List.map_nil]); first | done | rfl | (simp only [List.length_drop, List.length_take]; rfl)) ?_; (with_reducible refine (kind_Check.calls k _ _ t162 t165 t166 _ ?side1 ?side2 A2.out).mono ?_); (case side1 => repeat (first | exact (Kd.N_reads' HO164.out).2.2 | (with_reducible refine Kd.C_alloc ?_ _) | (with_reducible refine Kd.C_drewN ?_ _) | (with_reducible refine Kd.C_drew ?_))); (case side2 => exact (Kd.N_reads' HO164.out).2.1); rintro e w37 ⟨rfl, hb⟩; refine ⟨_, rfl, ?_⟩; have n0_ := Aside0.mk (Kd.N_below (by (with_reducible repeat (first | apply Kd.N_alloc | apply Kd.N_drewN | apply Kd.N_drew)); exact HO164.out) hb); have n1_ := Aside0.mk (below_step (by repeat (first | (with_reducible first | exact HB.out | apply below_alloc | apply pw_below_drewN | apply below_drew1) | exact HB.out)) hb); clear HO164; clear HB; have HO164 := n0_; have HB := n1_; clear n0_ n1_; (try clear hb); (try clear hb2); (try clear hk); (try clear hi)) | ((with_reducible refine gate_dst (N := 23) rfl ?_); (try (refine gate_guard (by rfl) ?_; dsimp only)); refine Kd.N_lit k43 _ 43 ?hg (N' := 23) ?hd (xs := ([(⟨(⟨#[84]⟩ : ByteArray), ([] : List (S48))⟩ : S43), (⟨(⟨#[84]⟩ : ByteArray), ([] : List (S48))⟩ : S43)] : List (S43))) (inner := [.string (⟨#[84]⟩ : ByteArray), .slice none 0 0, .string (⟨#[84]⟩ : ByteArray), .slice none 0 0]) (ok := (fun k_ => some k_ ≠ (.slice Ao36 t162.length co36 : Value).ownBlock)) (okp := (fun k_ => some k_ ≠ (.slice Ao36 t162.length co36 : Value).ownBlock)) ?hr ?hp (fun _ hk => hk) ((show ∀ k_, w37.heap.size ≤ k_ → (fun k_ => some k_ ≠ (.slice Ao36 t162.length co36 : Value).ownBlock) k_ from fun k_ hk => Kd.fresh' (Kd.N_lt (by (with_reducible repeat (first | apply Kd.N_alloc | apply Kd.N_drewN | apply Kd.N_drew)); exact HO164.out)) k_ hk) _ (Nat.le_refl _)) (Below.refl _ _) (Nat.le_refl _) (by simp) ?_; (case hd => rfl); (case hg => rfl); (case hr => first | (go_simp; done) | (go_simp; rfl)); (case hp => exact (Reps.c2 (show Kd.FK k43 _ _ (⟨(⟨#[84]⟩ : ByteArray), ([] : List (S48))⟩ : S43) [.string (⟨#[84]⟩ : ByteArray), .slice none 0 0] from (k43_mkF _ _ (⟨(⟨#[84]⟩ : ByteArray), ([] : List (S48))⟩ : S43) (Nat.le_refl _) (Kd.F_nil _ _ _))) (Reps.c2 (show Kd.FK k43 _ _ (⟨(⟨#[84]⟩ : ByteArray), ([] : List (S48))⟩ : S43) [.string (⟨#[84]⟩ : ByteArray), .slice none 0 0] from (k43_mkF _ _ (⟨(⟨#[84]⟩ : ByteArray), ([] : List (S48))⟩ : S43) (Nat.le_refl _) (Kd.F_nil _ _ _))) (Reps.none _ _)))); intro v168 w38 ho39 hb hg_ hnew_; clear hg_ hnew_; (first | rw [← Ny167.out] at ho39 | (simp only [Int.reduceToNat] at ho39; rw [← Ny167.out] at ho39)); have n0_ := Aside0.mk (Kd.N_elder' (by (with_reducible repeat (first | apply Kd.N_alloc | apply Kd.N_drewN | apply Kd.N_drew)); exact HO164.out) (Kd.N_base ho39) hb); have n1_ := Aside0.mk (Kd.N_lower ho39 (below_size (by repeat (first | (with_reducible first | exact HB.out | apply below_alloc | apply pw_below_drewN | apply below_drew1) | exact HB.out)))); have n2_ := Aside0.mk (below_step (by repeat (first | (with_reducible first | exact HB.out | apply below_alloc | apply pw_below_drewN | apply below_drew1) | exact HB.out)) hb); clear HO164; clear HB; have HO164 := n0_; have HO169 := n1_; have HB := n2_; clear n0_ n1_ n2_; clear hb ho39; obtain ⟨Ao40, co40, eo40⟩ := Kd.N_slice HO169.out; subst eo40) | ((with_reducible refine gate_callee (f := 9) rfl ?_); refine goesL_ (some 24) rfl rfl Try.func9 (by kernel_rfl) rfl #[.slice Ao40 y167.length co40] rfl (by (try simp only [List.map_toArray, List.map_cons, List.map_nil]); first | done | rfl | (simp only [List.length_drop, List.length_take]; rfl)) ?_; (with_reducible refine (kind_Check.calls k _ _ y167 t170 t171 _ ?side1 ?side2 A3.out).mono ?_); (case side1 => repeat (first | exact (Kd.N_reads' HO169.out).2.2 | (with_reducible refine Kd.C_alloc ?_ _) | (with_reducible refine Kd.C_drewN ?_ _) | (with_reducible refine Kd.C_drew ?_))); (case side2 => exact (Kd.N_reads' HO169.out).2.1); rintro e w41 ⟨rfl, hb⟩; refine ⟨_, rfl, ?_⟩; have n0_ := Aside0.mk (Kd.N_below (by (with_reducible repeat (first | apply Kd.N_alloc | apply Kd.N_drewN | apply Kd.N_drew)); exact HO164.out) hb); have n1_ := Aside0.mk (Kd.N_below (by (with_reducible repeat (first | apply Kd.N_alloc | apply Kd.N_drewN | apply Kd.N_drew)); exact HO169.out) hb); have n2_ := Aside0.mk (below_step (by repeat (first | (with_reducible first | exact HB.out | apply below_alloc | apply pw_below_drewN | apply below_drew1) | exact HB.out)) hb); clear HO164; clear HO169; clear HB; have HO164 := n0_; have HO169 := n1_; have HB := n2_; clear n0_ n1_ n2_; (try clear hb); (try clear hb2); (try clear hk); (try clear hi)) | ((with_reducible refine gate_callee (f := 18) rfl ?_); refine goesL_ (some 28) rfl rfl Try.func18 (by kernel_rfl) rfl #[.slice Ao36 t162.length co36, .string (⟨#[42, 85]⟩ : ByteArray)] rfl (by (try simp only [List.map_toArray, List.map_cons, List.map_nil]); first | done | rfl | (simp only [List.length_drop, List.length_take]; rfl)) ?_; (with_reducible refine (kind_Reach.calls k _ _ t162 (⟨#[42, 85]⟩ : ByteArray) t172 _ ?side1 ?side2 A4.out).mono ?_); (case side1 => repeat (first | exact (Kd.N_reads' HO164.out).2.2 | (with_reducible refine Kd.C_alloc ?_ _) | (with_reducible refine Kd.C_drewN ?_ _) | (with_reducible refine Kd.C_drew ?_))); (case side2 => exact (Kd.N_reads' HO164.out).2.1); rintro e w42 ⟨v173, rfl, ho0, hb⟩; refine ⟨_, rfl, ?_⟩; have n0_ := Aside0.mk (Kd.N_elder' (by (with_reducible repeat (first | apply Kd.N_alloc | apply Kd.N_drewN | apply Kd.N_drew)); exact HO164.out) (Kd.R_base ho0) hb); have n1_ := Aside0.mk (Kd.N_elder' (by (with_reducible repeat (first | apply Kd.N_alloc | apply Kd.N_drewN | apply Kd.N_drew)); exact HO169.out) (Kd.R_base ho0) hb); have n2_ := Aside0.mk (Kd.R_lower ho0 (below_size (by repeat (first | (with_reducible first | exact HB.out | apply below_alloc | apply pw_below_drewN | apply below_drew1) | exact HB.out)))); have n3_ := Aside0.mk (below_step (by repeat (first | (with_reducible first | exact HB.out | apply below_alloc | apply pw_below_drewN | apply below_drew1) | exact HB.out)) hb); clear HO164; clear HO169; clear HB; have HO164 := n0_; have HO169 := n1_; have HO174 := n2_; have HB := n3_; clear n0_ n1_ n2_ n3_; (try clear hb); (try clear hb2); (try clear hk); (try clear hi); (try clear ho0); have p175 : 0 ≤ (0 : Int) := (by omega); have q175 : 0 < (t162.length : Int) := of_decide_eq_true (by first | (with_reducible assumption) | assumption); obtain ⟨ad175, A175_1, c175_1, e175, hx175_0, hx175_1, hl175_1, hi175_1⟩ := at_T43 (Kd.N_reads' HO164.out).2.2 0 p175 q175; cases e175; obtain ⟨ce175, hce175, hMe175, hcc175⟩ := Kd.N_get HO164.out z43 0 p175 (by first | exact q175 | exact of_decide_eq_true (by first | (with_reducible assumption) | assumption) | (have e_ := (Kd.N_reads' HO164.out).1; omega)); obtain ⟨ua175_1, uc175_1, rfl, ul175_1, ge175_1⟩ := k43_openF hMe175; have hv175_1 := hcc175 1 _ rfl; rw [add_field _ _ 1 (by omega)] at hv175_1; replace hv175_1 := Option.some.inj (hv175_1.symm.trans hx175_1); injection hv175_1 with hva_ hvn_ hvc_; rw [hva_] at ge175_1; rw [hvc_] at ul175_1; have HL175_1 := Aside0.mk (show Kd.V k48 48 _ w.heap.size _ _ ((rd_T43 t162 0).f1) from Kd.V_mk ul175_1 ge175_1); clear hva_ hvn_ hvc_ ge175_1 ul175_1; clear hcc175 hce175; have qi175 : (0 < t162.length) = True := eq_true (by omega); (try rw [show ((0 : Int)).toNat = 0 from rfl] at hx175_0); (try rw [show 0 * 2 = 0 from rfl] at hx175_0); (try rw [Addr.add_zero'] at hx175_0); (try rw [show ((0 : Int)).toNat = 0 from rfl] at hx175_1); (try rw [show 0 * 2 = 0 from rfl] at hx175_1); (try rw [Addr.add_zero'] at hx175_1); have HR175_1 := Aside0.mk hi175_1; have HC175_1 := Aside0.mk hl175_1; clear hi175_1 hl175_1; replace p175 := eq_true p175; replace q175 := eq_true q175) | ((with_reducible refine gate_callee (f := 20) rfl ?_); refine goesL_ (some 32) rfl rfl Try.func20 (by kernel_rfl) rfl #[.agg #[.string ((rd_T43 t162 0).f0), .slice A175_1 ((rd_T43 t162 0).f1).length c175_1]] rfl (by (try simp only [List.map_toArray, List.map_cons, List.map_nil]); first | done | rfl | (simp only [List.length_drop, List.length_take]; rfl)) ?_; (with_reducible refine (kind_Links.calls k ((rd_T43 t162 0).f0) _ _ ((rd_T43 t162 0).f1) t176 _ ?side1 ?side2 A6.out).mono ?_); (case side1 => repeat (first | exact (by repeat (first | (with_reducible exact HR175_1.out) | (with_reducible refine Kd.C_alloc ?_ _) | (with_reducible refine Kd.C_drewN ?_ _) | (with_reducible refine Kd.C_drew ?_) | exact HR175_1.out)) | (with_reducible refine Kd.C_alloc ?_ _) | (with_reducible refine Kd.C_drewN ?_ _) | (with_reducible refine Kd.C_drew ?_))); (case side2 => exact HC175_1.out); rintro e w43 ⟨v177, rfl, ho0, hb⟩; refine ⟨_, rfl, ?_⟩; have n0_ := Aside0.mk (Kd.N_elder' (by (with_reducible repeat (first | apply Kd.N_alloc | apply Kd.N_drewN | apply Kd.N_drew)); exact HO164.out) (Kd.R_base ho0) hb); have n1_ := Aside0.mk (Kd.N_elder' (by (with_reducible repeat (first | apply Kd.N_alloc | apply Kd.N_drewN | apply Kd.N_drew)); exact HO169.out) (Kd.R_base ho0) hb); have n2_ := Aside0.mk (Kd.R_below (by (with_reducible repeat (first | apply Kd.R_alloc | apply Kd.R_drewN | apply Kd.R_drew)); exact HO174.out) hb); have n3_ := Aside0.mk (Kd.V_elder' (by (with_reducible repeat (first | apply Kd.V_alloc | apply Kd.V_drewN | apply Kd.V_drew)); exact HL175_1.out) (Kd.R_base ho0) hb); have n4_ := Aside0.mk (Kd.R_lower ho0 (below_size (by repeat (first | (with_reducible first | exact HB.out | apply below_alloc | apply pw_below_drewN | apply below_drew1) | exact HB.out)))); have n5_ := Aside0.mk (Kd.C_below (by repeat (first | (with_reducible exact HR175_1.out) | (with_reducible refine Kd.C_alloc ?_ _) | (with_reducible refine Kd.C_drewN ?_ _) | (with_reducible refine Kd.C_drew ?_) | exact HR175_1.out)) hb); have n6_ := Aside0.mk (below_step (by repeat (first | (with_reducible first | exact HB.out | apply below_alloc | apply pw_below_drewN | apply below_drew1) | exact HB.out)) hb); clear HO164; clear HO169; clear HO174; clear HL175_1; clear HR175_1; clear HB; have HO164 := n0_; have HO169 := n1_; have HO174 := n2_; have HL175_1 := n3_; have HO178 := n4_; have HR175_1 := n5_; have HB := n6_; clear n0_ n1_ n2_ n3_ n4_ n5_ n6_; (try clear hb); (try clear hb2); (try clear hk); (try clear hi); (try clear ho0); have p179 : 0 ≤ (0 : Int) := (by omega); have q179 : 0 < (t162.length : Int) := of_decide_eq_true (by first | (with_reducible assumption) | assumption); obtain ⟨ad179, A179_1, c179_1, e179, hx179_0, hx179_1, hl179_1, hi179_1⟩ := at_T43 (Kd.N_reads' HO164.out).2.2 0 p179 q179; obtain rfl : ad175 = ad179 := (by injection e179); obtain ⟨ce179, hce179, hMe179, hcc179⟩ := Kd.N_get HO164.out z43 0 p179 (by first | exact q179 | exact of_decide_eq_true (by first | (with_reducible assumption) | assumption) | (have e_ := (Kd.N_reads' HO164.out).1; omega)); obtain ⟨ua179_1, uc179_1, rfl, ul179_1, ge179_1⟩ := k43_openF hMe179; have hv179_1 := hcc179 1 _ rfl; rw [add_field _ _ 1 (by omega)] at hv179_1; replace hv179_1 := Option.some.inj (hv179_1.symm.trans hx179_1); injection hv179_1 with hva_ hvn_ hvc_; rw [hva_] at ge179_1; rw [hvc_] at ul179_1; have HL179_1 := Aside0.mk (show Kd.V k48 48 _ w.heap.size _ _ ((rd_T43 t162 0).f1) from Kd.V_mk ul179_1 ge179_1); clear hva_ hvn_ hvc_ ge179_1 ul179_1; clear hcc179 hce179; have qi179 : (0 < t162.length) = True := eq_true (by omega); (try rw [show ((0 : Int)).toNat = 0 from rfl] at hx179_0); (try rw [show 0 * 2 = 0 from rfl] at hx179_0); (try rw [Addr.add_zero'] at hx179_0); (try rw [show ((0 : Int)).toNat = 0 from rfl] at hx179_1); (try rw [show 0 * 2 = 0 from rfl] at hx179_1); (try rw [Addr.add_zero'] at hx179_1); have HR179_1 := Aside0.mk hi179_1; have HC179_1 := Aside0.mk hl179_1; clear hi179_1 hl179_1; replace p179 := eq_true p179; replace q179 := eq_true q179) | ((with_reducible refine gate_callee (f := 21) rfl ?_); refine goesL_ (some 37) rfl rfl Try.func21 (by kernel_rfl) rfl #[.agg #[.string ((rd_T43 t162 0).f0), .slice A179_1 ((rd_T43 t162 0).f1).length c179_1], .string (⟨#[117]⟩ : ByteArray)] rfl (by (try simp only [List.map_toArray, List.map_cons, List.map_nil]); first | done | rfl | (simp only [List.length_drop, List.length_take]; rfl)) ?_; (with_reducible refine (kind_Place.calls ((rd_T43 t162 0).f0) _ _ ((rd_T43 t162 0).f1) (⟨#[117]⟩ : ByteArray) t180 true _ ?side1 ?side2 A7.out).mono ?_); (case side1 => repeat (first | exact (by repeat (first | (with_reducible exact HR179_1.out) | (with_reducible refine Kd.C_alloc ?_ _) | (with_reducible refine Kd.C_drewN ?_ _) | (with_reducible refine Kd.C_drew ?_) | exact HR179_1.out)) | (with_reducible refine Kd.C_alloc ?_ _) | (with_reducible refine Kd.C_drewN ?_ _) | (with_reducible refine Kd.C_drew ?_))); (case side2 => exact HC179_1.out); rintro e w44 ⟨rfl, hb⟩; refine ⟨_, rfl, ?_⟩; have n0_ := Aside0.mk (Kd.N_below (by (with_reducible repeat (first | apply Kd.N_alloc | apply Kd.N_drewN | apply Kd.N_drew)); exact HO164.out) hb); have n1_ := Aside0.mk (Kd.N_below (by (with_reducible repeat (first | apply Kd.N_alloc | apply Kd.N_drewN | apply Kd.N_drew)); exact HO169.out) hb); have n2_ := Aside0.mk (Kd.R_below (by (with_reducible repeat (first | apply Kd.R_alloc | apply Kd.R_drewN | apply Kd.R_drew)); exact HO174.out) hb); have n3_ := Aside0.mk (Kd.V_below (by (with_reducible repeat (first | apply Kd.V_alloc | apply Kd.V_drewN | apply Kd.V_drew)); exact HL175_1.out) hb); have n4_ := Aside0.mk (Kd.R_below (by (with_reducible repeat (first | apply Kd.R_alloc | apply Kd.R_drewN | apply Kd.R_drew)); exact HO178.out) hb); have n5_ := Aside0.mk (Kd.V_below (by (with_reducible repeat (first | apply Kd.V_alloc | apply Kd.V_drewN | apply Kd.V_drew)); exact HL179_1.out) hb); have n6_ := Aside0.mk (Kd.C_below (by repeat (first | (with_reducible exact HR175_1.out) | (with_reducible refine Kd.C_alloc ?_ _) | (with_reducible refine Kd.C_drewN ?_ _) | (with_reducible refine Kd.C_drew ?_) | exact HR175_1.out)) hb); have n7_ := Aside0.mk (Kd.C_below (by repeat (first | (with_reducible exact HR179_1.out) | (with_reducible refine Kd.C_alloc ?_ _) | (with_reducible refine Kd.C_drewN ?_ _) | (with_reducible refine Kd.C_drew ?_) | exact HR179_1.out)) hb); have n8_ := Aside0.mk (below_step (by repeat (first | (with_reducible first | exact HB.out | apply below_alloc | apply pw_below_drewN | apply below_drew1) | exact HB.out)) hb); clear HO164; clear HO169; clear HO174; clear HL175_1; clear HO178; clear HL179_1; clear HR175_1; clear HR179_1; clear HB; have HO164 := n0_; have HO169 := n1_; have HO174 := n2_; have HL175_1 := n3_; have HO178 := n4_; have HL179_1 := n5_; have HR175_1 := n6_; have HR179_1 := n7_; have HB := n8_; clear n0_ n1_ n2_ n3_ n4_ n5_ n6_ n7_ n8_; (try clear hb); (try clear hb2); (try clear hk); (try clear hi)) | ((with_reducible refine gate_callee (f := 11) rfl ?_); refine goesL_ (some 41) rfl rfl Try.func11 (by kernel_rfl) rfl #[.string (⟨#[42, 84]⟩ : ByteArray)] rfl (by (try simp only [List.map_toArray, List.map_cons, List.map_nil]); first | done | rfl | (simp only [List.length_drop, List.length_take]; rfl)) ?_; (with_reducible refine (kind_Elem.calls k (⟨#[42, 84]⟩ : ByteArray) t182 true _ A8.out).mono ?_); rintro e w45 ⟨rfl, hb⟩; refine ⟨_, rfl, ?_⟩; have n0_ := Aside0.mk (Kd.N_below (by (with_reducible repeat (first | apply Kd.N_alloc | apply Kd.N_drewN | apply Kd.N_drew)); exact HO164.out) hb); have n1_ := Aside0.mk (Kd.N_below (by (with_reducible repeat (first | apply Kd.N_alloc | apply Kd.N_drewN | apply Kd.N_drew)); exact HO169.out) hb); have n2_ := Aside0.mk (Kd.R_below (by (with_reducible repeat (first | apply Kd.R_alloc | apply Kd.R_drewN | apply Kd.R_drew)); exact HO174.out) hb); have n3_ := Aside0.mk (Kd.V_below (by (with_reducible repeat (first | apply Kd.V_alloc | apply Kd.V_drewN | apply Kd.V_drew)); exact HL175_1.out) hb); have n4_ := Aside0.mk (Kd.R_below (by (with_reducible repeat (first | apply Kd.R_alloc | apply Kd.R_drewN | apply Kd.R_drew)); exact HO178.out) hb); have n5_ := Aside0.mk (Kd.V_below (by (with_reducible repeat (first | apply Kd.V_alloc | apply Kd.V_drewN | apply Kd.V_drew)); exact HL179_1.out) hb); have n6_ := Aside0.mk (Kd.C_below (by repeat (first | (with_reducible exact HR175_1.out) | (with_reducible refine Kd.C_alloc ?_ _) | (with_reducible refine Kd.C_drewN ?_ _) | (with_reducible refine Kd.C_drew ?_) | exact HR175_1.out)) hb); have n7_ := Aside0.mk (Kd.C_below (by repeat (first | (with_reducible exact HR179_1.out) | (with_reducible refine Kd.C_alloc ?_ _) | (with_reducible refine Kd.C_drewN ?_ _) | (with_reducible refine Kd.C_drew ?_) | exact HR179_1.out)) hb); have n8_ := Aside0.mk (below_step (by repeat (first | (with_reducible first | exact HB.out | apply below_alloc | apply pw_below_drewN | apply below_drew1) | exact HB.out)) hb); clear HO164; clear HO169; clear HO174; clear HL175_1; clear HO178; clear HL179_1; clear HR175_1; clear HR179_1; clear HB; have HO164 := n0_; have HO169 := n1_; have HO174 := n2_; have HL175_1 := n3_; have HO178 := n4_; have HL179_1 := n5_; have HR175_1 := n6_; have HR179_1 := n7_; have HB := n8_; clear n0_ n1_ n2_ n3_ n4_ n5_ n6_ n7_ n8_; (try clear hb); (try clear hb2); (try clear hk); (try clear hi)) | ((with_reducible refine gate_callee (f := 11) rfl ?_); refine goesL_ (some 45) rfl rfl Try.func11 (by kernel_rfl) rfl #[.string (⟨#[105, 110, 116]⟩ : ByteArray)] rfl (by (try simp only [List.map_toArray, List.map_cons, List.map_nil]); first | done | rfl | (simp only [List.length_drop, List.length_take]; rfl)) ?_; (with_reducible refine (kind_Elem.calls k (⟨#[105, 110, 116]⟩ : ByteArray) t184 false _ A9.out).mono ?_); rintro e w46 ⟨rfl, hb⟩; refine ⟨_, rfl, ?_⟩; have n0_ := Aside0.mk (Kd.N_below (by (with_reducible repeat (first | apply Kd.N_alloc | apply Kd.N_drewN | apply Kd.N_drew)); exact HO164.out) hb); have n1_ := Aside0.mk (Kd.N_below (by (with_reducible repeat (first | apply Kd.N_alloc | apply Kd.N_drewN | apply Kd.N_drew)); exact HO169.out) hb); have n2_ := Aside0.mk (Kd.R_below (by (with_reducible repeat (first | apply Kd.R_alloc | apply Kd.R_drewN | apply Kd.R_drew)); exact HO174.out) hb); have n3_ := Aside0.mk (Kd.V_below (by (with_reducible repeat (first | apply Kd.V_alloc | apply Kd.V_drewN | apply Kd.V_drew)); exact HL175_1.out) hb); have n4_ := Aside0.mk (Kd.R_below (by (with_reducible repeat (first | apply Kd.R_alloc | apply Kd.R_drewN | apply Kd.R_drew)); exact HO178.out) hb); have n5_ := Aside0.mk (Kd.V_below (by (with_reducible repeat (first | apply Kd.V_alloc | apply Kd.V_drewN | apply Kd.V_drew)); exact HL179_1.out) hb); have n6_ := Aside0.mk (Kd.C_below (by repeat (first | (with_reducible exact HR175_1.out) | (with_reducible refine Kd.C_alloc ?_ _) | (with_reducible refine Kd.C_drewN ?_ _) | (with_reducible refine Kd.C_drew ?_) | exact HR175_1.out)) hb); have n7_ := Aside0.mk (Kd.C_below (by repeat (first | (with_reducible exact HR179_1.out) | (with_reducible refine Kd.C_alloc ?_ _) | (with_reducible refine Kd.C_drewN ?_ _) | (with_reducible refine Kd.C_drew ?_) | exact HR179_1.out)) hb); have n8_ := Aside0.mk (below_step (by repeat (first | (with_reducible first | exact HB.out | apply below_alloc | apply pw_below_drewN | apply below_drew1) | exact HB.out)) hb); clear HO164; clear HO169; clear HO174; clear HL175_1; clear HO178; clear HL179_1; clear HR175_1; clear HR179_1; clear HB; have HO164 := n0_; have HO169 := n1_; have HO174 := n2_; have HL175_1 := n3_; have HO178 := n4_; have HL179_1 := n5_; have HR175_1 := n6_; have HR179_1 := n7_; have HB := n8_; clear n0_ n1_ n2_ n3_ n4_ n5_ n6_ n7_ n8_; (try clear hb); (try clear hb2); (try clear hk); (try clear hi); obtain ⟨Ao47, co47, eo47⟩ := Kd.R_slice HO174.out; subst eo47; have p186 : 0 ≤ (0 : Int) := (by omega); have q186 : 0 < (t172.length : Int) := of_decide_eq_true (by first | (with_reducible assumption) | assumption); obtain ⟨ad186, e186, hx186_0⟩ := Kd.at_string (Kd.R_reads' HO174.out).2.2 0 p186 q186; cases e186; have qi186 : (0 < t172.length) = True := eq_true (by omega); (try rw [show ((0 : Int)).toNat = 0 from rfl] at hx186_0); (try rw [Addr.add_zero'] at hx186_0); replace p186 := eq_true p186; replace q186 := eq_true q186; have p187 : 0 ≤ (1 : Int) := (by omega); have q187 : 1 < (t172.length : Int) := of_decide_eq_true (by first | (with_reducible assumption) | assumption); obtain ⟨ad187, e187, hx187_0⟩ := Kd.at_string (Kd.R_reads' HO174.out).2.2 1 p187 q187; obtain rfl : ad186 = ad187 := (by injection e187); (try simp only [show (1 : Int).toNat = 1 from rfl, Nat.reduceMul, Nat.reduceEqDiff, Go.Addr.add, ↓reduceIte] at hx187_0); have qi187 : (1 < t172.length) = True := eq_true (by omega); (try rw [show ((1 : Int)).toNat = 1 from rfl] at hx187_0); replace p187 := eq_true p187; replace q187 := eq_true q187; obtain ⟨Ao48, co48, eo48⟩ := Kd.R_slice HO178.out; subst eo48; have p188 : 0 ≤ (0 : Int) := (by omega); have q188 : 0 < (t176.length : Int) := of_decide_eq_true (by first | (with_reducible assumption) | assumption); obtain ⟨ad188, e188, hx188_0⟩ := Kd.at_int (Kd.R_reads' HO178.out).2.2 0 p188 q188; cases e188; have qi188 : (0 < t176.length) = True := eq_true (by omega); (try rw [show ((0 : Int)).toNat = 0 from rfl] at hx188_0); (try rw [Addr.add_zero'] at hx188_0); replace p188 := eq_true p188; replace q188 := eq_true q188) | (go_at_call 17; (with_reducible refine (kind_Pointer.calls (⟨#[84]⟩ : ByteArray) t189 _ A27.out).mono ?_); rintro e w' ⟨rfl, ⟨nd, rfl⟩⟩) | (go_at_call 15; (with_reducible refine (kind_Is.calls k _ _ t162 (⟨#[98, 111, 111, 108]⟩ : ByteArray) true _ ?side1 ?side2 A29.out).mono ?_); (case side1 => repeat (first | exact (Kd.N_reads' HO164.out).2.2 | (with_reducible refine Kd.C_alloc ?_ _) | (with_reducible refine Kd.C_drewN ?_ _) | (with_reducible refine Kd.C_drew ?_))); (case side2 => exact (Kd.N_reads' HO164.out).2.1); rintro e w49 ⟨rfl, hb⟩; have n0_ := Aside0.mk (Kd.N_below (by (with_reducible repeat (first | apply Kd.N_alloc | apply Kd.N_drewN | apply Kd.N_drew)); exact HO164.out) hb); have n1_ := Aside0.mk (Kd.N_below (by (with_reducible repeat (first | apply Kd.N_alloc | apply Kd.N_drewN | apply Kd.N_drew)); exact HO169.out) hb); have n2_ := Aside0.mk (Kd.R_below (by (with_reducible repeat (first | apply Kd.R_alloc | apply Kd.R_drewN | apply Kd.R_drew)); exact HO174.out) hb); have n3_ := Aside0.mk (Kd.V_below (by (with_reducible repeat (first | apply Kd.V_alloc | apply Kd.V_drewN | apply Kd.V_drew)); exact HL175_1.out) hb); have n4_ := Aside0.mk (Kd.R_below (by (with_reducible repeat (first | apply Kd.R_alloc | apply Kd.R_drewN | apply Kd.R_drew)); exact HO178.out) hb); have n5_ := Aside0.mk (Kd.V_below (by (with_reducible repeat (first | apply Kd.V_alloc | apply Kd.V_drewN | apply Kd.V_drew)); exact HL179_1.out) hb); have n6_ := Aside0.mk (Kd.C_below (by repeat (first | (with_reducible exact HR175_1.out) | (with_reducible refine Kd.C_alloc ?_ _) | (with_reducible refine Kd.C_drewN ?_ _) | (with_reducible refine Kd.C_drew ?_) | exact HR175_1.out)) hb); have n7_ := Aside0.mk (Kd.C_below (by repeat (first | (with_reducible exact HR179_1.out) | (with_reducible refine Kd.C_alloc ?_ _) | (with_reducible refine Kd.C_drewN ?_ _) | (with_reducible refine Kd.C_drew ?_) | exact HR179_1.out)) hb); have n8_ := Aside0.mk (below_step (by repeat (first | (with_reducible first | exact HB.out | apply below_alloc | apply pw_below_drewN | apply below_drew1) | exact HB.out)) hb); clear HO164; clear HO169; clear HO174; clear HL175_1; clear HO178; clear HL179_1; clear HR175_1; clear HR179_1; clear HB; have HO164 := n0_; have HO169 := n1_; have HO174 := n2_; have HL175_1 := n3_; have HO178 := n4_; have HL179_1 := n5_; have HR175_1 := n6_; have HR179_1 := n7_; have HB := n8_; clear n0_ n1_ n2_ n3_ n4_ n5_ n6_ n7_ n8_; (try clear hb); (try clear hb2); (try clear hk); (try clear hi)) | (go_at_call 15; (with_reducible refine (kind_Is.calls k _ _ t162 (⟨#[42, 87]⟩ : ByteArray) false _ ?side1 ?side2 A31.out).mono ?_); (case side1 => repeat (first | exact (Kd.N_reads' HO164.out).2.2 | (with_reducible refine Kd.C_alloc ?_ _) | (with_reducible refine Kd.C_drewN ?_ _) | (with_reducible refine Kd.C_drew ?_))); (case side2 => exact (Kd.N_reads' HO164.out).2.1); rintro e w50 ⟨rfl, hb⟩; have n0_ := Aside0.mk (Kd.N_below (by (with_reducible repeat (first | apply Kd.N_alloc | apply Kd.N_drewN | apply Kd.N_drew)); exact HO164.out) hb); have n1_ := Aside0.mk (Kd.N_below (by (with_reducible repeat (first | apply Kd.N_alloc | apply Kd.N_drewN | apply Kd.N_drew)); exact HO169.out) hb); have n2_ := Aside0.mk (Kd.R_below (by (with_reducible repeat (first | apply Kd.R_alloc | apply Kd.R_drewN | apply Kd.R_drew)); exact HO174.out) hb); have n3_ := Aside0.mk (Kd.V_below (by (with_reducible repeat (first | apply Kd.V_alloc | apply Kd.V_drewN | apply Kd.V_drew)); exact HL175_1.out) hb); have n4_ := Aside0.mk (Kd.R_below (by (with_reducible repeat (first | apply Kd.R_alloc | apply Kd.R_drewN | apply Kd.R_drew)); exact HO178.out) hb); have n5_ := Aside0.mk (Kd.V_below (by (with_reducible repeat (first | apply Kd.V_alloc | apply Kd.V_drewN | apply Kd.V_drew)); exact HL179_1.out) hb); have n6_ := Aside0.mk (Kd.C_below (by repeat (first | (with_reducible exact HR175_1.out) | (with_reducible refine Kd.C_alloc ?_ _) | (with_reducible refine Kd.C_drewN ?_ _) | (with_reducible refine Kd.C_drew ?_) | exact HR175_1.out)) hb); have n7_ := Aside0.mk (Kd.C_below (by repeat (first | (with_reducible exact HR179_1.out) | (with_reducible refine Kd.C_alloc ?_ _) | (with_reducible refine Kd.C_drewN ?_ _) | (with_reducible refine Kd.C_drew ?_) | exact HR179_1.out)) hb); have n8_ := Aside0.mk (below_step (by repeat (first | (with_reducible first | exact HB.out | apply below_alloc | apply pw_below_drewN | apply below_drew1) | exact HB.out)) hb); clear HO164; clear HO169; clear HO174; clear HL175_1; clear HO178; clear HL179_1; clear HR175_1; clear HR179_1; clear HB; have HO164 := n0_; have HO169 := n1_; have HO174 := n2_; have HL175_1 := n3_; have HO178 := n4_; have HL179_1 := n5_; have HR175_1 := n6_; have HR179_1 := n7_; have HB := n8_; clear n0_ n1_ n2_ n3_ n4_ n5_ n6_ n7_ n8_; (try clear hb); (try clear hb2); (try clear hk); (try clear hi)) | (go_at_call 25; (with_reducible refine (truantlaw03_two.calls  t192 _ A33.out).mono ?_); rintro e w51 ⟨v193, rfl, ho0, hb⟩; have n0_ := Aside0.mk (Kd.N_elder' (by (with_reducible repeat (first | apply Kd.N_alloc | apply Kd.N_drewN | apply Kd.N_drew)); exact HO164.out) (Kd.N_base ho0) hb); have n1_ := Aside0.mk (Kd.N_elder' (by (with_reducible repeat (first | apply Kd.N_alloc | apply Kd.N_drewN | apply Kd.N_drew)); exact HO169.out) (Kd.N_base ho0) hb); have n2_ := Aside0.mk (Kd.R_below (by (with_reducible repeat (first | apply Kd.R_alloc | apply Kd.R_drewN | apply Kd.R_drew)); exact HO174.out) hb); have n3_ := Aside0.mk (Kd.V_elder' (by (with_reducible repeat (first | apply Kd.V_alloc | apply Kd.V_drewN | apply Kd.V_drew)); exact HL175_1.out) (Kd.N_base ho0) hb); have n4_ := Aside0.mk (Kd.R_below (by (with_reducible repeat (first | apply Kd.R_alloc | apply Kd.R_drewN | apply Kd.R_drew)); exact HO178.out) hb); have n5_ := Aside0.mk (Kd.V_elder' (by (with_reducible repeat (first | apply Kd.V_alloc | apply Kd.V_drewN | apply Kd.V_drew)); exact HL179_1.out) (Kd.N_base ho0) hb); have n6_ := Aside0.mk (Kd.N_lower (Kd.N_mono (ok' := fun k_ => some k_ ≠ (.slice (some ad175) t162.length co36 : Value).ownBlock ∧ some k_ ≠ (.slice Ao40 y167.length co40 : Value).ownBlock ∧ some k_ ≠ (.slice (some ad186) t172.length co47 : Value).ownBlock ∧ some k_ ≠ (.slice (some ad188) t176.length co48 : Value).ownBlock) ho0 (fun k_ hk_ => ⟨(Kd.fresh' (Kd.N_lt (by (with_reducible repeat (first | apply Kd.N_alloc | apply Kd.N_drewN | apply Kd.N_drew)); exact HO164.out)) k_ hk_), (Kd.fresh' (Kd.N_lt (by (with_reducible repeat (first | apply Kd.N_alloc | apply Kd.N_drewN | apply Kd.N_drew)); exact HO169.out)) k_ hk_), (Kd.fresh' (Kd.R_lt (by (with_reducible repeat (first | apply Kd.R_alloc | apply Kd.R_drewN | apply Kd.R_drew)); exact HO174.out)) k_ hk_), (Kd.fresh' (Kd.R_lt (by (with_reducible repeat (first | apply Kd.R_alloc | apply Kd.R_drewN | apply Kd.R_drew)); exact HO178.out)) k_ hk_)⟩)) (below_size (by repeat (first | (with_reducible first | exact HB.out | apply below_alloc | apply pw_below_drewN | apply below_drew1) | exact HB.out)))); have n7_ := Aside0.mk (Kd.C_below (by repeat (first | (with_reducible exact HR175_1.out) | (with_reducible refine Kd.C_alloc ?_ _) | (with_reducible refine Kd.C_drewN ?_ _) | (with_reducible refine Kd.C_drew ?_) | exact HR175_1.out)) hb); have n8_ := Aside0.mk (Kd.C_below (by repeat (first | (with_reducible exact HR179_1.out) | (with_reducible refine Kd.C_alloc ?_ _) | (with_reducible refine Kd.C_drewN ?_ _) | (with_reducible refine Kd.C_drew ?_) | exact HR179_1.out)) hb); have n9_ := Aside0.mk (below_step (by repeat (first | (with_reducible first | exact HB.out | apply below_alloc | apply pw_below_drewN | apply below_drew1) | exact HB.out)) hb); clear HO164; clear HO169; clear HO174; clear HL175_1; clear HO178; clear HL179_1; clear HR175_1; clear HR179_1; clear HB; have HO164 := n0_; have HO169 := n1_; have HO174 := n2_; have HL175_1 := n3_; have HO178 := n4_; have HL179_1 := n5_; have HO194 := n6_; have HR175_1 := n7_; have HR179_1 := n8_; have HB := n9_; clear n0_ n1_ n2_ n3_ n4_ n5_ n6_ n7_ n8_ n9_; (try clear hb); (try clear hb2); (try clear hk); (try clear hi); (try clear ho0); obtain ⟨Ao52, co52, eo52⟩ := Kd.N_slice HO194.out; subst eo52) | (go_at_call 22; (with_reducible refine (kind_Same.calls _ _ t162 _ _ t192 t195 _ ?side1 ?side2 ?side3 ?side4 A34.out).mono ?_); (case side1 => repeat (first | exact (Kd.N_reads' HO164.out).2.2 | (with_reducible refine Kd.C_alloc ?_ _) | (with_reducible refine Kd.C_drewN ?_ _) | (with_reducible refine Kd.C_drew ?_))); (case side2 => exact (Kd.N_reads' HO164.out).2.1); (case side3 => repeat (first | exact (Kd.N_reads' HO194.out).2.2 | (with_reducible refine Kd.C_alloc ?_ _) | (with_reducible refine Kd.C_drewN ?_ _) | (with_reducible refine Kd.C_drew ?_))); (case side4 => exact (Kd.N_reads' HO194.out).2.1); rintro e w53 ⟨rfl, hb⟩; have n0_ := Aside0.mk (Kd.N_below (by (with_reducible repeat (first | apply Kd.N_alloc | apply Kd.N_drewN | apply Kd.N_drew)); exact HO164.out) hb); have n1_ := Aside0.mk (Kd.N_below (by (with_reducible repeat (first | apply Kd.N_alloc | apply Kd.N_drewN | apply Kd.N_drew)); exact HO169.out) hb); have n2_ := Aside0.mk (Kd.R_below (by (with_reducible repeat (first | apply Kd.R_alloc | apply Kd.R_drewN | apply Kd.R_drew)); exact HO174.out) hb); have n3_ := Aside0.mk (Kd.V_below (by (with_reducible repeat (first | apply Kd.V_alloc | apply Kd.V_drewN | apply Kd.V_drew)); exact HL175_1.out) hb); have n4_ := Aside0.mk (Kd.R_below (by (with_reducible repeat (first | apply Kd.R_alloc | apply Kd.R_drewN | apply Kd.R_drew)); exact HO178.out) hb); have n5_ := Aside0.mk (Kd.V_below (by (with_reducible repeat (first | apply Kd.V_alloc | apply Kd.V_drewN | apply Kd.V_drew)); exact HL179_1.out) hb); have n6_ := Aside0.mk (Kd.N_below (by (with_reducible repeat (first | apply Kd.N_alloc | apply Kd.N_drewN | apply Kd.N_drew)); exact HO194.out) hb); have n7_ := Aside0.mk (Kd.C_below (by repeat (first | (with_reducible exact HR175_1.out) | (with_reducible refine Kd.C_alloc ?_ _) | (with_reducible refine Kd.C_drewN ?_ _) | (with_reducible refine Kd.C_drew ?_) | exact HR175_1.out)) hb); have n8_ := Aside0.mk (Kd.C_below (by repeat (first | (with_reducible exact HR179_1.out) | (with_reducible refine Kd.C_alloc ?_ _) | (with_reducible refine Kd.C_drewN ?_ _) | (with_reducible refine Kd.C_drew ?_) | exact HR179_1.out)) hb); have n9_ := Aside0.mk (below_step (by repeat (first | (with_reducible first | exact HB.out | apply below_alloc | apply pw_below_drewN | apply below_drew1) | exact HB.out)) hb); clear HO164; clear HO169; clear HO174; clear HL175_1; clear HO178; clear HL179_1; clear HO194; clear HR175_1; clear HR179_1; clear HB; have HO164 := n0_; have HO169 := n1_; have HO174 := n2_; have HL175_1 := n3_; have HO178 := n4_; have HL179_1 := n5_; have HO194 := n6_; have HR175_1 := n7_; have HR179_1 := n8_; have HB := n9_; clear n0_ n1_ n2_ n3_ n4_ n5_ n6_ n7_ n8_ n9_; (try clear hb); (try clear hb2); (try clear hk); (try clear hi)))
                      go_ret
                      exact ⟨by first | rfl | (simp [errW_none, errW_some] <;> rfl) | (simp [*, errW_none, errW_some] <;> rfl), by repeat (first | (with_reducible first | exact HB.out | apply below_alloc | apply pw_below_drewN | apply below_drew1) | exact HB.out)⟩
                    ·replace c30 := Bool.eq_false_iff.mpr c30
                     subst c30
                     have H1 : (none) = some r := by rw [if_neg (show ¬ (false = true) by decide)] at H; exact H
                     clear H
                     have H := H1
                     clear H1
                     exact absurd H (by simp)
                   ·rw [if_neg c28] at H
                    exact absurd H (by simp)
                 ·rw [if_neg c25] at H
                  exact absurd H (by simp)
                ·replace c24 := Bool.eq_false_iff.mpr c24
                 subst c24
                 have H1 : (none) = some r := by rw [if_neg (show ¬ (false = true) by decide)] at H; exact H
                 clear H
                 have H := H1
                 clear H1
                 exact absurd H (by simp)
               ·rw [if_neg c23] at H
                exact absurd H (by simp)
              ·replace c22 := Bool.eq_false_iff.mpr c22
               subst c22
               have H1 : (none) = some r := by rw [if_neg (show ¬ (false = true) by decide)] at H; exact H
               clear H
               have H := H1
               clear H1
               exact absurd H (by simp)
             ·rw [if_neg c21] at H
              exact absurd H (by simp)
            ·rw [if_neg c20] at H
             exact absurd H (by simp)
           ·rw [if_neg c19] at H
            exact absurd H (by simp)
          ·rw [if_neg c18] at H
           exact absurd H (by simp)
         ·rw [if_neg c17] at H
          exact absurd H (by simp)
        ·rw [if_neg c16] at H
         exact absurd H (by simp)
       ·rw [if_neg c15] at H
        exact absurd H (by simp)
      ·rw [if_neg c14] at H
       exact absurd H (by simp)
     ·rw [if_neg c13] at H
      exact absurd H (by simp)
    ·rw [if_neg c12] at H
     exact absurd H (by simp)
   ·rw [if_neg c11] at H
    exact absurd H (by simp)
  ·rw [if_neg c10] at H
   exact absurd H (by simp)
 ·rw [if_neg c5] at H
  exact absurd H (by simp)

end Go.Proofs.Ythpglaekdadehaa.Q

namespace Go.Proofs.Ythpglaekdadehaa.Q
open Go.RowKit Go.Proofs.YthpglaekdadehaaW.PrintWords Go.Proofs.YthpglaekdadehaaW.PrintLast Go.Proofs.YthpglaekdadehaaW.PrintMore
attribute [local go_sem] max2_int min2_int max_two min_two max_three min_three max_four min_four   -- for this text's walks alone
set_option linter.unusedVariables false
set_option linter.unusedSimpArgs false

/-! ### truantlaw03_great: function 8 -/
mutual
def truantlaw03_great.l0 : Nat → List (S43) → Int → Option (Bool)
 | 0, _, _ => none
 | k + 1, x0, x3 => if x3 < (x0.length : Int) then (if 0 ≤ x3 then (if (((rd_T43 x0 x3).f0).size : Int) > 100 then (truantlaw03_great.j1 k x0 x3 true) else (truantlaw03_great.j1 k x0 x3 (decide ((((rd_T43 x0 x3).f1).length : Int) > 12)))) else (none)) else (some false)
def truantlaw03_great.j1 : Nat → List (S43) → Int → Bool → Option (Bool)
 | 0, _, _, _ => none
 | k + 1, x0, x3, x29 => if x29 = true then (some true) else (truantlaw03_great.l1 k x0 x3 0)
def truantlaw03_great.l1 : Nat → List (S43) → Int → Int → Option (Bool)
 | 0, _, _, _ => none
 | k + 1, x0, x3, x4 => if 0 ≤ x3 then (if x3 < (x0.length : Int) then (if x4 < (((rd_T43 x0 x3).f1).length : Int) then (if 0 ≤ x4 then (if (((rd_T48 ((rd_T43 x0 x3).f1) x4).f0).size : Int) > 100 then (some true) else (if (((rd_T48 ((rd_T43 x0 x3).f1) x4).f1).size : Int) > 100 then (some true) else (truantlaw03_great.l1 k x0 x3 (wrap64 (x4 + 1))))) else (none)) else (truantlaw03_great.l0 k x0 (wrap64 (x3 + 1)))) else (none)) else (none)
end
def truantlaw03_great.f (k : Nat) (l0 : List (S43)) : Option (Bool) := if (l0.length : Int) > 16 then (some true) else (truantlaw03_great.l0 k l0 0)
theorem truantlaw03_great.mono_l : ∀ k, (∀ y0 y1, LeO (truantlaw03_great.l0 k y0 y1) (truantlaw03_great.l0 (k + 1) y0 y1)) ∧ (∀ y0 y1 y2, LeO (truantlaw03_great.j1 k y0 y1 y2) (truantlaw03_great.j1 (k + 1) y0 y1 y2)) ∧ (∀ y0 y1 y2, LeO (truantlaw03_great.l1 k y0 y1 y2) (truantlaw03_great.l1 (k + 1) y0 y1 y2))
 | 0 => ⟨fun _ _ r h => by simp [truantlaw03_great.l0] at h, fun _ _ _ r h => by simp [truantlaw03_great.j1] at h, fun _ _ _ r h => by simp [truantlaw03_great.l1] at h⟩
 | k + 1 => by
  obtain ⟨ih0, ih1, ih2⟩ := truantlaw03_great.mono_l k
  refine ⟨?_, ?_, ?_⟩
  ·intro y0 y1
   unfold truantlaw03_great.l0
   repeat' first
   | (with_reducible exact ih0 _ _)
   | (with_reducible exact ih1 _ _ _)
   | (with_reducible exact ih2 _ _ _)
   | (with_reducible exact LeO.refl _)
   | (with_reducible exact LeO.none _)
   | (with_reducible refine LeO.ite ?_ ?_)
   | (with_reducible refine LeO.bind ?_ (fun _ => ?_))
   | exact ih0 _ _
   | exact ih1 _ _ _
   | exact ih2 _ _ _
   | exact LeO.none _
   | refine LeO.ite ?_ ?_
   | refine LeO.bind ?_ (fun _ => ?_)
  ·intro y0 y1 y2
   unfold truantlaw03_great.j1
   repeat' first
   | (with_reducible exact ih0 _ _)
   | (with_reducible exact ih1 _ _ _)
   | (with_reducible exact ih2 _ _ _)
   | (with_reducible exact LeO.refl _)
   | (with_reducible exact LeO.none _)
   | (with_reducible refine LeO.ite ?_ ?_)
   | (with_reducible refine LeO.bind ?_ (fun _ => ?_))
   | exact ih0 _ _
   | exact ih1 _ _ _
   | exact ih2 _ _ _
   | exact LeO.none _
   | refine LeO.ite ?_ ?_
   | refine LeO.bind ?_ (fun _ => ?_)
  ·intro y0 y1 y2
   unfold truantlaw03_great.l1
   repeat' first
   | (with_reducible exact ih0 _ _)
   | (with_reducible exact ih1 _ _ _)
   | (with_reducible exact ih2 _ _ _)
   | (with_reducible exact LeO.refl _)
   | (with_reducible exact LeO.none _)
   | (with_reducible refine LeO.ite ?_ ?_)
   | (with_reducible refine LeO.bind ?_ (fun _ => ?_))
   | exact ih0 _ _
   | exact ih1 _ _ _
   | exact ih2 _ _ _
   | exact LeO.none _
   | refine LeO.ite ?_ ?_
   | refine LeO.bind ?_ (fun _ => ?_)
theorem truantlaw03_great.mono : ∀ a0 k, LeO (truantlaw03_great.f k a0) (truantlaw03_great.f (k + 1) a0) := by
 intro a0 k
 obtain ⟨ih0, ih1, ih2⟩ := truantlaw03_great.mono_l k
 unfold truantlaw03_great.f
 repeat' first
   | (with_reducible exact ih0 _ _)
   | (with_reducible exact ih1 _ _ _)
   | (with_reducible exact ih2 _ _ _)
   | (with_reducible exact LeO.refl _)
   | (with_reducible exact LeO.none _)
   | (with_reducible refine LeO.ite ?_ ?_)
   | (with_reducible refine LeO.bind ?_ (fun _ => ?_))
   | exact ih0 _ _
   | exact ih1 _ _ _
   | exact ih2 _ _ _
   | exact LeO.none _
   | refine LeO.ite ?_ ?_
   | refine LeO.bind ?_ (fun _ => ?_)
set_option maxHeartbeats 8000000 in
set_option maxRecDepth 100000 in
theorem truantlaw03_great.calls (k : Nat) (A0 : Option Addr) (c0 : Nat) (l0 : List (S43)) (r : Bool) (w : World) (hr0 : Kd.C k43 w A0 l0.length l0) (hc0 : l0.length ≤ c0) (h : truantlaw03_great.f k l0 = some r) :
  Calls Try.prog 8 #[.slice A0 l0.length c0] w fun e w' => e = .returned (.bool r) ∧ Drawn0 w w' := by
 have HR0 := Aside0.mk hr0
 have HC0 := Aside0.mk hc0
 clear hr0 hc0
 have H : (if (l0.length : Int) > 16 then (some true) else (truantlaw03_great.l0 k l0 0)) = some r := h
 clear h
 by_cases c2 : (l0.length : Int) > 16
 ·rw [if_pos c2] at H
  have c2b0 : decide (16 < (l0.length : Int)) = true := decide_eq_true c2
  have c2b1 : decide (16 < l0.length) = true := decide_eq_true (by omega)
  clear c2
  obtain rfl := Option.some.inj H
  go_enter Try.func8, Try.ntmps8
  go_wp2
  go_ret
  exact ⟨by first | rfl | (simp; done) | (simp [*]; done), by repeat (first | exact Drawn0.refl _ | apply Drawn0.step)⟩
 ·rw [if_neg c2] at H
  have c2b0 : decide (16 < (l0.length : Int)) = false := decide_eq_false c2
  have c2b1 : decide (16 < l0.length) = false := decide_eq_false (by omega)
  clear c2
  have H' := Aside0.mk H
  clear H
  go_enter Try.func8, Try.ntmps8
  go_wp2
  go_loopg [3] k (fun kq v3 w' => ∃ (x3_1 : Int), v3 = .int .i64 x3_1 ∧ Aside0 (truantlaw03_great.l0 kq l0 x3_1 = some r) ∧ Aside0 (kq ≤ k) ∧ Drawn0 w w')
  case atStart => exact ⟨(0), (by first | rfl | (simp; done) | (simp [*]; done)), H', ⟨Nat.le_refl _⟩, by repeat (first | exact Drawn0.refl _ | apply Drawn0.step)⟩
  case round =>
   clear H'
   try clear c2
   try clear c2b0
   try clear c2b1
   try clear p2
   obtain ⟨x3_1, rfl, HA, HK1, ⟨m1, rfl⟩⟩ := hrel
   cases gk with
   | zero => exact absurd HA.out (by simp [truantlaw03_great.l0])
   | succ k1 =>
    have H := HA.out
    clear HA
    simp only [truantlaw03_great.l0] at H
    by_cases c3 : x3_1 < (l0.length : Int)
    ·rw [if_pos c3] at H
     have c3b0 : decide (x3_1 < (l0.length : Int)) = true := decide_eq_true c3
     clear c3
     have HC4 := Aside0.mk H
     clear H
     go_upto_region 6 with (fail)
     go_cut [29] (fun v29 wc => ∃ (kq : Nat) (x29_3 : Bool), v29 = .bool x29_3 ∧ Aside0 (truantlaw03_great.j1 kq l0 x3_1 x29_3 = some r) ∧ Aside0 (kq ≤ k1) ∧ Drawn0 w wc)
     case first =>
      have H := HC4.out
      clear HC4
      by_cases c5 : 0 ≤ x3_1
      ·rw [if_pos c5] at H
       have c5b0 : decide (0 ≤ x3_1) = true := decide_eq_true c5
       clear c5
       (first | rw [c5b0] | (simp only [i64_w, i32_w]; rw [c5b0]) | skip)
       by_cases c6 : (((rd_T43 l0 x3_1).f0).size : Int) > 100
       ·rw [if_pos c6] at H
        have c6b0 : decide (100 < (((rd_T43 l0 x3_1).f0).size : Int)) = true := decide_eq_true c6
        have c6b1 : decide (100 < ((rd_T43 l0 x3_1).f0).size) = true := decide_eq_true (by omega)
        clear c6
        have H' := Aside0.mk H
        clear H
        have p196 : 0 ≤ (x3_1 : Int) := of_decide_eq_true (by first | (with_reducible assumption) | assumption)
        have q196 : x3_1 < (l0.length : Int) := of_decide_eq_true (by first | (with_reducible assumption) | assumption)
        obtain ⟨ad196, A196_1, c196_1, e196, hx196_0, hx196_1, hl196_1, hi196_1⟩ := at_T43 HR0.out x3_1 p196 q196
        cases e196
        have HR196_1 := Aside0.mk hi196_1
        have HC196_1 := Aside0.mk hl196_1
        clear hi196_1 hl196_1
        replace p196 := eq_true p196
        replace q196 := eq_true q196
        go_wp2
        go_meet
        case rel => exact ⟨_, (true), (by first | rfl | (simp; done) | (simp [*]; done)), H', ⟨by have := HK1.out; first | omega | exact Nat.le_refl _⟩, by repeat (first | exact Drawn0.refl _ | apply Drawn0.step)⟩
       ·rw [if_neg c6] at H
        have c6b0 : decide (100 < (((rd_T43 l0 x3_1).f0).size : Int)) = false := decide_eq_false c6
        have c6b1 : decide (100 < ((rd_T43 l0 x3_1).f0).size) = false := decide_eq_false (by omega)
        clear c6
        have H' := Aside0.mk H
        clear H
        have p196 : 0 ≤ (x3_1 : Int) := of_decide_eq_true (by first | (with_reducible assumption) | assumption)
        have q196 : x3_1 < (l0.length : Int) := of_decide_eq_true (by first | (with_reducible assumption) | assumption)
        obtain ⟨ad196, A196_1, c196_1, e196, hx196_0, hx196_1, hl196_1, hi196_1⟩ := at_T43 HR0.out x3_1 p196 q196
        cases e196
        have HR196_1 := Aside0.mk hi196_1
        have HC196_1 := Aside0.mk hl196_1
        clear hi196_1 hl196_1
        replace p196 := eq_true p196
        replace q196 := eq_true q196
        have p197 : 0 ≤ (x3_1 : Int) := of_decide_eq_true (by first | (with_reducible assumption) | assumption)
        have q197 : x3_1 < (l0.length : Int) := of_decide_eq_true (by first | (with_reducible assumption) | assumption)
        obtain ⟨ad197, A197_1, c197_1, e197, hx197_0, hx197_1, hl197_1, hi197_1⟩ := at_T43 HR0.out x3_1 p197 q197
        obtain rfl : ad196 = ad197 := (by injection e197)
        have HR197_1 := Aside0.mk hi197_1
        have HC197_1 := Aside0.mk hl197_1
        clear hi197_1 hl197_1
        replace p197 := eq_true p197
        replace q197 := eq_true q197
        have ea_ := Option.some.inj (hx196_1.symm.trans hx197_1)
        injection ea_ with ea_ en_ ec_
        subst ea_
        subst ec_
        clear en_
        go_wp2
        go_meet
        case rel => exact ⟨_, (decide ((((rd_T43 l0 x3_1).f1).length : Int) > 12)), (by first | rfl | (simp; done) | (simp [*]; done)), H', ⟨by have := HK1.out; first | omega | exact Nat.le_refl _⟩, by repeat (first | exact Drawn0.refl _ | apply Drawn0.step)⟩
      ·rw [if_neg c5] at H
       exact absurd H (by simp)
     case rest =>
      clear HC4
      try clear c1
      try clear p1
      try clear q1
      try clear hx1
      try clear c2
      try clear c2b0
      try clear c2b1
      try clear p2
      try clear c3
      try clear c3b0
      try clear c5
      try clear c5b0
      try clear c6
      try clear c6b0
      try clear c6b1
      try clear hx196_0
      try clear hx196_1
      try clear hx197_0
      try clear hx197_1
      try clear p196
      try clear p197
      try clear p2
      try clear q196
      try clear q197
      obtain ⟨kq, x29_3, rfl, HA, HJ3, ⟨mc3, rfl⟩⟩ := hcut
      cases kq with
      | zero => exact absurd HA.out (by simp [truantlaw03_great.j1])
      | succ kj3 =>
       have H := HA.out
       clear HA
       simp only [truantlaw03_great.j1] at H
       by_cases c7 : x29_3 = true
       ·subst c7
        have H1 : (some true) = some r := by rw [if_pos rfl] at H; exact H
        clear H
        have H := H1
        clear H1
        obtain rfl := Option.some.inj H
        go_wp2
        go_ret
        exact ⟨by first | rfl | (simp; done) | (simp [*]; done), by repeat (first | exact Drawn0.refl _ | apply Drawn0.step)⟩
       ·replace c7 := Bool.eq_false_iff.mpr c7
        subst c7
        have H1 : (truantlaw03_great.l1 kj3 l0 x3_1 0) = some r := by rw [if_neg (show ¬ (false = true) by decide)] at H; exact H
        clear H
        have H := H1
        clear H1
        have H' := Aside0.mk H
        clear H
        go_wp2
        go_loopg [4] kj3 (fun kq v4 w' => ∃ (x4_3 : Int), v4 = .int .i64 x4_3 ∧ Aside0 (truantlaw03_great.l1 kq l0 x3_1 x4_3 = some r) ∧ Aside0 (kq ≤ kj3) ∧ Drawn0 w w')
        case atStart => exact ⟨(0), (by first | rfl | (simp; done) | (simp [*]; done)), H', ⟨Nat.le_refl _⟩, by repeat (first | exact Drawn0.refl _ | apply Drawn0.step)⟩
        case round =>
         clear H'
         try clear c1
         try clear p1
         try clear q1
         try clear hx1
         try clear c2
         try clear c2b0
         try clear c2b1
         try clear p2
         try clear c3
         try clear c3b0
         try clear c5
         try clear c5b0
         try clear c6
         try clear c6b0
         try clear c6b1
         try clear c7
         try clear hx196_0
         try clear hx196_1
         try clear hx197_0
         try clear hx197_1
         try clear p1
         try clear p196
         try clear p197
         try clear p2
         try clear q1
         try clear q196
         try clear q197
         obtain ⟨x4_3, rfl, HA, HK3, ⟨m3, rfl⟩⟩ := hrel
         cases gk with
         | zero => exact absurd HA.out (by simp [truantlaw03_great.l1])
         | succ k3 =>
          have H := HA.out
          clear HA
          simp only [truantlaw03_great.l1] at H
          by_cases c8 : 0 ≤ x3_1
          ·rw [if_pos c8] at H
           have c8b0 : decide (0 ≤ x3_1) = true := decide_eq_true c8
           clear c8
           by_cases c9 : x3_1 < (l0.length : Int)
           ·rw [if_pos c9] at H
            have c9b0 : decide (x3_1 < (l0.length : Int)) = true := decide_eq_true c9
            clear c9
            by_cases c10 : x4_3 < (((rd_T43 l0 x3_1).f1).length : Int)
            ·rw [if_pos c10] at H
             have c10b0 : decide (x4_3 < (((rd_T43 l0 x3_1).f1).length : Int)) = true := decide_eq_true c10
             clear c10
             by_cases c11 : 0 ≤ x4_3
             ·rw [if_pos c11] at H
              have c11b0 : decide (0 ≤ x4_3) = true := decide_eq_true c11
              clear c11
              by_cases c12 : (((rd_T48 ((rd_T43 l0 x3_1).f1) x4_3).f0).size : Int) > 100
              ·rw [if_pos c12] at H
               have c12b0 : decide (100 < (((rd_T48 ((rd_T43 l0 x3_1).f1) x4_3).f0).size : Int)) = true := decide_eq_true c12
               have c12b1 : decide (100 < ((rd_T48 ((rd_T43 l0 x3_1).f1) x4_3).f0).size) = true := decide_eq_true (by omega)
               clear c12
               obtain rfl := Option.some.inj H
               have p198 : 0 ≤ (x3_1 : Int) := of_decide_eq_true (by first | (with_reducible assumption) | assumption)
               have q198 : x3_1 < (l0.length : Int) := of_decide_eq_true (by first | (with_reducible assumption) | assumption)
               obtain ⟨ad198, A198_1, c198_1, e198, hx198_0, hx198_1, hl198_1, hi198_1⟩ := at_T43 HR0.out x3_1 p198 q198
               cases e198
               have HR198_1 := Aside0.mk hi198_1
               have HC198_1 := Aside0.mk hl198_1
               clear hi198_1 hl198_1
               replace p198 := eq_true p198
               replace q198 := eq_true q198
               have p199 : 0 ≤ (x3_1 : Int) := of_decide_eq_true (by first | (with_reducible assumption) | assumption)
               have q199 : x3_1 < (l0.length : Int) := of_decide_eq_true (by first | (with_reducible assumption) | assumption)
               obtain ⟨ad199, A199_1, c199_1, e199, hx199_0, hx199_1, hl199_1, hi199_1⟩ := at_T43 HR0.out x3_1 p199 q199
               obtain rfl : ad198 = ad199 := (by injection e199)
               have HR199_1 := Aside0.mk hi199_1
               have HC199_1 := Aside0.mk hl199_1
               clear hi199_1 hl199_1
               replace p199 := eq_true p199
               replace q199 := eq_true q199
               have ea_ := Option.some.inj (hx198_1.symm.trans hx199_1)
               injection ea_ with ea_ en_ ec_
               subst ea_
               subst ec_
               clear en_
               have p200 : 0 ≤ (x4_3 : Int) := of_decide_eq_true (by first | (with_reducible assumption) | assumption)
               have q200 : x4_3 < (((rd_T43 l0 x3_1).f1).length : Int) := of_decide_eq_true (by first | (with_reducible assumption) | assumption)
               obtain ⟨ad200, e200, hx200_0, hx200_1⟩ := at_T48 HR199_1.out x4_3 p200 q200
               cases e200
               replace p200 := eq_true p200
               replace q200 := eq_true q200
               go_wp2
               go_ret
               exact ⟨by first | rfl | (simp; done) | (simp [*]; done), by repeat (first | exact Drawn0.refl _ | apply Drawn0.step)⟩
              ·rw [if_neg c12] at H
               have c12b0 : decide (100 < (((rd_T48 ((rd_T43 l0 x3_1).f1) x4_3).f0).size : Int)) = false := decide_eq_false c12
               have c12b1 : decide (100 < ((rd_T48 ((rd_T43 l0 x3_1).f1) x4_3).f0).size) = false := decide_eq_false (by omega)
               clear c12
               by_cases c13 : (((rd_T48 ((rd_T43 l0 x3_1).f1) x4_3).f1).size : Int) > 100
               ·rw [if_pos c13] at H
                have c13b0 : decide (100 < (((rd_T48 ((rd_T43 l0 x3_1).f1) x4_3).f1).size : Int)) = true := decide_eq_true c13
                have c13b1 : decide (100 < ((rd_T48 ((rd_T43 l0 x3_1).f1) x4_3).f1).size) = true := decide_eq_true (by omega)
                clear c13
                obtain rfl := Option.some.inj H
                have p198 : 0 ≤ (x3_1 : Int) := of_decide_eq_true (by first | (with_reducible assumption) | assumption)
                have q198 : x3_1 < (l0.length : Int) := of_decide_eq_true (by first | (with_reducible assumption) | assumption)
                obtain ⟨ad198, A198_1, c198_1, e198, hx198_0, hx198_1, hl198_1, hi198_1⟩ := at_T43 HR0.out x3_1 p198 q198
                cases e198
                have HR198_1 := Aside0.mk hi198_1
                have HC198_1 := Aside0.mk hl198_1
                clear hi198_1 hl198_1
                replace p198 := eq_true p198
                replace q198 := eq_true q198
                have p199 : 0 ≤ (x3_1 : Int) := of_decide_eq_true (by first | (with_reducible assumption) | assumption)
                have q199 : x3_1 < (l0.length : Int) := of_decide_eq_true (by first | (with_reducible assumption) | assumption)
                obtain ⟨ad199, A199_1, c199_1, e199, hx199_0, hx199_1, hl199_1, hi199_1⟩ := at_T43 HR0.out x3_1 p199 q199
                obtain rfl : ad198 = ad199 := (by injection e199)
                have HR199_1 := Aside0.mk hi199_1
                have HC199_1 := Aside0.mk hl199_1
                clear hi199_1 hl199_1
                replace p199 := eq_true p199
                replace q199 := eq_true q199
                have ea_ := Option.some.inj (hx198_1.symm.trans hx199_1)
                injection ea_ with ea_ en_ ec_
                subst ea_
                subst ec_
                clear en_
                have p200 : 0 ≤ (x4_3 : Int) := of_decide_eq_true (by first | (with_reducible assumption) | assumption)
                have q200 : x4_3 < (((rd_T43 l0 x3_1).f1).length : Int) := of_decide_eq_true (by first | (with_reducible assumption) | assumption)
                obtain ⟨ad200, e200, hx200_0, hx200_1⟩ := at_T48 HR199_1.out x4_3 p200 q200
                cases e200
                replace p200 := eq_true p200
                replace q200 := eq_true q200
                have p201 : 0 ≤ (x3_1 : Int) := of_decide_eq_true (by first | (with_reducible assumption) | assumption)
                have q201 : x3_1 < (l0.length : Int) := of_decide_eq_true (by first | (with_reducible assumption) | assumption)
                obtain ⟨ad201, A201_1, c201_1, e201, hx201_0, hx201_1, hl201_1, hi201_1⟩ := at_T43 HR0.out x3_1 p201 q201
                obtain rfl : ad198 = ad201 := (by injection e201)
                have HR201_1 := Aside0.mk hi201_1
                have HC201_1 := Aside0.mk hl201_1
                clear hi201_1 hl201_1
                replace p201 := eq_true p201
                replace q201 := eq_true q201
                have ea_ := Option.some.inj (hx198_1.symm.trans hx201_1)
                injection ea_ with ea_ en_ ec_
                subst ea_
                subst ec_
                clear en_
                have p202 : 0 ≤ (x4_3 : Int) := of_decide_eq_true (by first | (with_reducible assumption) | assumption)
                have q202 : x4_3 < (((rd_T43 l0 x3_1).f1).length : Int) := of_decide_eq_true (by first | (with_reducible assumption) | assumption)
                obtain ⟨ad202, e202, hx202_0, hx202_1⟩ := at_T48 HR201_1.out x4_3 p202 q202
                cases e202
                replace p202 := eq_true p202
                replace q202 := eq_true q202
                go_wp2
                go_ret
                exact ⟨by first | rfl | (simp; done) | (simp [*]; done), by repeat (first | exact Drawn0.refl _ | apply Drawn0.step)⟩
               ·rw [if_neg c13] at H
                have c13b0 : decide (100 < (((rd_T48 ((rd_T43 l0 x3_1).f1) x4_3).f1).size : Int)) = false := decide_eq_false c13
                have c13b1 : decide (100 < ((rd_T48 ((rd_T43 l0 x3_1).f1) x4_3).f1).size) = false := decide_eq_false (by omega)
                clear c13
                have H' := Aside0.mk H
                clear H
                have p198 : 0 ≤ (x3_1 : Int) := of_decide_eq_true (by first | (with_reducible assumption) | assumption)
                have q198 : x3_1 < (l0.length : Int) := of_decide_eq_true (by first | (with_reducible assumption) | assumption)
                obtain ⟨ad198, A198_1, c198_1, e198, hx198_0, hx198_1, hl198_1, hi198_1⟩ := at_T43 HR0.out x3_1 p198 q198
                cases e198
                have HR198_1 := Aside0.mk hi198_1
                have HC198_1 := Aside0.mk hl198_1
                clear hi198_1 hl198_1
                replace p198 := eq_true p198
                replace q198 := eq_true q198
                have p199 : 0 ≤ (x3_1 : Int) := of_decide_eq_true (by first | (with_reducible assumption) | assumption)
                have q199 : x3_1 < (l0.length : Int) := of_decide_eq_true (by first | (with_reducible assumption) | assumption)
                obtain ⟨ad199, A199_1, c199_1, e199, hx199_0, hx199_1, hl199_1, hi199_1⟩ := at_T43 HR0.out x3_1 p199 q199
                obtain rfl : ad198 = ad199 := (by injection e199)
                have HR199_1 := Aside0.mk hi199_1
                have HC199_1 := Aside0.mk hl199_1
                clear hi199_1 hl199_1
                replace p199 := eq_true p199
                replace q199 := eq_true q199
                have ea_ := Option.some.inj (hx198_1.symm.trans hx199_1)
                injection ea_ with ea_ en_ ec_
                subst ea_
                subst ec_
                clear en_
                have p200 : 0 ≤ (x4_3 : Int) := of_decide_eq_true (by first | (with_reducible assumption) | assumption)
                have q200 : x4_3 < (((rd_T43 l0 x3_1).f1).length : Int) := of_decide_eq_true (by first | (with_reducible assumption) | assumption)
                obtain ⟨ad200, e200, hx200_0, hx200_1⟩ := at_T48 HR199_1.out x4_3 p200 q200
                cases e200
                replace p200 := eq_true p200
                replace q200 := eq_true q200
                have p201 : 0 ≤ (x3_1 : Int) := of_decide_eq_true (by first | (with_reducible assumption) | assumption)
                have q201 : x3_1 < (l0.length : Int) := of_decide_eq_true (by first | (with_reducible assumption) | assumption)
                obtain ⟨ad201, A201_1, c201_1, e201, hx201_0, hx201_1, hl201_1, hi201_1⟩ := at_T43 HR0.out x3_1 p201 q201
                obtain rfl : ad198 = ad201 := (by injection e201)
                have HR201_1 := Aside0.mk hi201_1
                have HC201_1 := Aside0.mk hl201_1
                clear hi201_1 hl201_1
                replace p201 := eq_true p201
                replace q201 := eq_true q201
                have ea_ := Option.some.inj (hx198_1.symm.trans hx201_1)
                injection ea_ with ea_ en_ ec_
                subst ea_
                subst ec_
                clear en_
                have p202 : 0 ≤ (x4_3 : Int) := of_decide_eq_true (by first | (with_reducible assumption) | assumption)
                have q202 : x4_3 < (((rd_T43 l0 x3_1).f1).length : Int) := of_decide_eq_true (by first | (with_reducible assumption) | assumption)
                obtain ⟨ad202, e202, hx202_0, hx202_1⟩ := at_T48 HR201_1.out x4_3 p202 q202
                cases e202
                replace p202 := eq_true p202
                replace q202 := eq_true q202
                go_wp2
                go_roundg k3
                case measure => have := HK1.out; have := HJ3.out; have := HK3.out; omega
                case rel => exact ⟨(wrap64 (x4_3 + 1)), (by first | rfl | (simp; done) | (simp [*]; done)), H', ⟨by have := HK1.out; have := HJ3.out; have := HK3.out; omega⟩, by repeat (first | exact Drawn0.refl _ | apply Drawn0.step)⟩
             ·rw [if_neg c11] at H
              exact absurd H (by simp)
            ·rw [if_neg c10] at H
             have c10b0 : decide (x4_3 < (((rd_T43 l0 x3_1).f1).length : Int)) = false := decide_eq_false c10
             clear c10
             have H' := Aside0.mk H
             clear H
             have p198 : 0 ≤ (x3_1 : Int) := of_decide_eq_true (by first | (with_reducible assumption) | assumption)
             have q198 : x3_1 < (l0.length : Int) := of_decide_eq_true (by first | (with_reducible assumption) | assumption)
             obtain ⟨ad198, A198_1, c198_1, e198, hx198_0, hx198_1, hl198_1, hi198_1⟩ := at_T43 HR0.out x3_1 p198 q198
             cases e198
             have HR198_1 := Aside0.mk hi198_1
             have HC198_1 := Aside0.mk hl198_1
             clear hi198_1 hl198_1
             replace p198 := eq_true p198
             replace q198 := eq_true q198
             go_wp2
             go_roundg k3
             case measure => have := HK1.out; have := HJ3.out; have := HK3.out; omega
             case rel => exact ⟨(wrap64 (x3_1 + 1)), (by first | rfl | (simp; done) | (simp [*]; done)), H', ⟨by have := HK1.out; have := HJ3.out; have := HK3.out; omega⟩, by repeat (first | exact Drawn0.refl _ | apply Drawn0.step)⟩
           ·rw [if_neg c9] at H
            exact absurd H (by simp)
          ·rw [if_neg c8] at H
           exact absurd H (by simp)
    ·rw [if_neg c3] at H
     have c3b0 : decide (x3_1 < (l0.length : Int)) = false := decide_eq_false c3
     clear c3
     obtain rfl := Option.some.inj H
     go_wp2
     go_ret
     exact ⟨by first | rfl | (simp; done) | (simp [*]; done), by repeat (first | exact Drawn0.refl _ | apply Drawn0.step)⟩

end Go.Proofs.Ythpglaekdadehaa.Q

namespace Go.Proofs.Ythpglaekdadehaa.Q
open Go.RowKit Go.Proofs.YthpglaekdadehaaW.PrintWords Go.Proofs.YthpglaekdadehaaW.PrintLast Go.Proofs.YthpglaekdadehaaW.PrintMore
attribute [local go_sem] max2_int min2_int max_two min_two max_three min_three max_four min_four   -- for this text's walks alone
set_option linter.unusedVariables false
set_option linter.unusedSimpArgs false

/-! ### truantlaw03_has: function 24 -/
def truantlaw03_has.l0 : Nat → List ByteArray → ByteArray → Int → Option (Bool)
 | 0, _, _, _ => none
 | k + 1, x0, x1, x5 => if x5 < (x0.length : Int) then (if 0 ≤ x5 then (if (rdOf ByteArray.empty x0 x5).toList = x1.toList then (some true) else (truantlaw03_has.l0 k x0 x1 (wrap64 (x5 + 1)))) else (none)) else (some false)
def truantlaw03_has.f (k : Nat) (l0 : List ByteArray) (a1 : ByteArray) : Option (Bool) := truantlaw03_has.l0 k l0 a1 0
theorem truantlaw03_has.mono_l : ∀ k, (∀ y0 y1 y2, LeO (truantlaw03_has.l0 k y0 y1 y2) (truantlaw03_has.l0 (k + 1) y0 y1 y2))
 | 0 => fun _ _ _ r h => by simp [truantlaw03_has.l0] at h
 | k + 1 => by
  have ih0 := truantlaw03_has.mono_l k
  ·intro y0 y1 y2
   unfold truantlaw03_has.l0
   repeat' first
   | (with_reducible exact ih0 _ _ _)
   | (with_reducible exact LeO.refl _)
   | (with_reducible exact LeO.none _)
   | (with_reducible refine LeO.ite ?_ ?_)
   | (with_reducible refine LeO.bind ?_ (fun _ => ?_))
   | exact ih0 _ _ _
   | exact LeO.none _
   | refine LeO.ite ?_ ?_
   | refine LeO.bind ?_ (fun _ => ?_)
theorem truantlaw03_has.mono : ∀ a0 a1 k, LeO (truantlaw03_has.f k a0 a1) (truantlaw03_has.f (k + 1) a0 a1) := by
 intro a0 a1 k
 have ih0 := truantlaw03_has.mono_l k
 unfold truantlaw03_has.f
 repeat' first
   | (with_reducible exact ih0 _ _ _)
   | (with_reducible exact LeO.refl _)
   | (with_reducible exact LeO.none _)
   | (with_reducible refine LeO.ite ?_ ?_)
   | (with_reducible refine LeO.bind ?_ (fun _ => ?_))
   | exact ih0 _ _ _
   | exact LeO.none _
   | refine LeO.ite ?_ ?_
   | refine LeO.bind ?_ (fun _ => ?_)
set_option maxHeartbeats 8000000 in
set_option maxRecDepth 100000 in
theorem truantlaw03_has.calls (k : Nat) (A0 : Option Addr) (c0 : Nat) (l0 : List ByteArray) (a1 : ByteArray) (r : Bool) (w : World) (hr0 : Kd.C Kd.string w A0 l0.length l0) (hc0 : l0.length ≤ c0) (h : truantlaw03_has.f k l0 a1 = some r) :
  Calls Try.prog 24 #[.slice A0 l0.length c0, .string a1] w fun e w' => e = .returned (.bool r) ∧ Drawn0 w w' := by
 have HR0 := Aside0.mk hr0
 have HC0 := Aside0.mk hc0
 clear hr0 hc0
 have H : (truantlaw03_has.l0 k l0 a1 0) = some r := h
 clear h
 have H' := Aside0.mk H
 clear H
 go_enter Try.func24, Try.ntmps24
 go_wp2
 go_loopg [5] k (fun kq v5 w' => ∃ (x5_1 : Int), v5 = .int .i64 x5_1 ∧ Aside0 (truantlaw03_has.l0 kq l0 a1 x5_1 = some r) ∧ Aside0 (kq ≤ k) ∧ Drawn0 w w')
 case atStart => exact ⟨(0), (by first | rfl | (simp; done) | (simp [*]; done)), H', ⟨Nat.le_refl _⟩, by repeat (first | exact Drawn0.refl _ | apply Drawn0.step)⟩
 case round =>
  clear H'
  try clear c2
  try clear p2
  obtain ⟨x5_1, rfl, HA, HK1, ⟨m1, rfl⟩⟩ := hrel
  cases gk with
  | zero => exact absurd HA.out (by simp [truantlaw03_has.l0])
  | succ k1 =>
   have H := HA.out
   clear HA
   simp only [truantlaw03_has.l0] at H
   by_cases c3 : x5_1 < (l0.length : Int)
   ·rw [if_pos c3] at H
    have c3b0 : decide (x5_1 < (l0.length : Int)) = true := decide_eq_true c3
    clear c3
    by_cases c4 : 0 ≤ x5_1
    ·rw [if_pos c4] at H
     have c4b0 : decide (0 ≤ x5_1) = true := decide_eq_true c4
     clear c4
     by_cases c5 : (rdOf ByteArray.empty l0 x5_1).toList = a1.toList
     ·rw [if_pos c5] at H
      have c5b0 : ((rdOf ByteArray.empty l0 x5_1).toList == a1.toList) = true := beq_iff_eq.mpr c5
      have c5b1 : ((rdOf ByteArray.empty l0 x5_1).toList != a1.toList) = false := bne_eq_false_iff_eq.mpr c5
      clear c5
      obtain rfl := Option.some.inj H
      have p297 : 0 ≤ (x5_1 : Int) := of_decide_eq_true (by first | (with_reducible assumption) | assumption)
      have q297 : x5_1 < (l0.length : Int) := of_decide_eq_true (by first | (with_reducible assumption) | assumption)
      obtain ⟨ad297, e297, hx297_0⟩ := Kd.at_string HR0.out x5_1 p297 q297
      cases e297
      replace p297 := eq_true p297
      replace q297 := eq_true q297
      go_wp2
      go_ret
      exact ⟨by first | rfl | (simp; done) | (simp [*]; done), by repeat (first | exact Drawn0.refl _ | apply Drawn0.step)⟩
     ·rw [if_neg c5] at H
      have c5b0 : ((rdOf ByteArray.empty l0 x5_1).toList == a1.toList) = false := beq_eq_false_iff_ne.mpr c5
      have c5b1 : ((rdOf ByteArray.empty l0 x5_1).toList != a1.toList) = true := bne_iff_ne.mpr c5
      have H' := Aside0.mk H
      clear H
      have p297 : 0 ≤ (x5_1 : Int) := of_decide_eq_true (by first | (with_reducible assumption) | assumption)
      have q297 : x5_1 < (l0.length : Int) := of_decide_eq_true (by first | (with_reducible assumption) | assumption)
      obtain ⟨ad297, e297, hx297_0⟩ := Kd.at_string HR0.out x5_1 p297 q297
      cases e297
      replace p297 := eq_true p297
      replace q297 := eq_true q297
      go_wp2
      go_roundg k1
      case measure => have := HK1.out; omega
      case rel => exact ⟨(wrap64 (x5_1 + 1)), (by first | rfl | (simp; done) | (simp [*]; done)), H', ⟨by have := HK1.out; omega⟩, by repeat (first | exact Drawn0.refl _ | apply Drawn0.step)⟩
    ·rw [if_neg c4] at H
     exact absurd H (by simp)
   ·rw [if_neg c3] at H
    have c3b0 : decide (x5_1 < (l0.length : Int)) = false := decide_eq_false c3
    clear c3
    obtain rfl := Option.some.inj H
    go_wp2
    go_ret
    exact ⟨by first | rfl | (simp; done) | (simp [*]; done), by repeat (first | exact Drawn0.refl _ | apply Drawn0.step)⟩

end Go.Proofs.Ythpglaekdadehaa.Q
